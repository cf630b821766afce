/- The layer E, part 17: each operation comes to what 'evOp' says. No condition. -/
import Derived.Test.YtdcdmpgigmhhpaaE16
namespace Go.Proofs.Ytdcdmpgigmhhpaa.E
set_option linter.unusedSimpArgs false
set_option linter.unusedVariables false

theorem zero_u8 {z : Option Value} (h : (match z with | some (.int .u8 0) => true | _ => false) = true) : z = some (.int .u8 0) := by
  split at h
  · rfl
  · cases h

theorem binop_run {P : Program} {L : Loc} {h : List Ob} {w : World} (H : HRel L h w) {op : BinOp} {T : TypeId} {x y : Operand} {a b : Value} {u v r : V} (ha : Rep L w u a) (hb : Rep L w v b) (he : evBin op u v = some r) :
    Good P L w (do eqGuard op T x y a b; binOp op T a b) r h := by
  obtain ⟨z, w', L', h1, rest⟩ := evBin_good (P := P) (t := T) H ha hb he
  have hg : (eqGuard op T x y a b).run P w = .ok () w := by
    refine run_eqGuard_plain w op T x y a b ?_ ?_
    · rintro ⟨cs, ds, rfl, rfl⟩
      unfold evBin at he
      split at he
      · cases ha
      · cases ha
      · cases he
    · rintro ⟨rfl, rfl⟩
      unfold evBin at he
      split at he
      · cases ha
      · cases ha
      · cases he
  exact ⟨z, w', L', by rw [Sem.run_bind, hg, Result.andThen_ok]; exact h1, rest⟩

theorem eqop_run {P : Program} {L : Loc} {h : List Ob} {w : World} (H : HRel L h w) {op : BinOp} {t : TypeId} {T : EqT} (hT : T.fits P t) (hop : op = .eql ∨ op = .neq) {x y : Operand} {a b : Value} {u v : V} {r : Bool} (ha : Rep L w u a) (hb : Rep L w v b)
    (he : evEq h T u v = some r) : Good P L w (do eqGuard op t x y a b; binOp op t a b) (.bool (if op = .neq then !r else r)) h := by
  obtain ⟨h1, h2, h3⟩ := evEq_run (P := P) H hT ha hb he
  refine .same H (x := .bool (if op = .neq then !r else r)) ?_ (.bool _)
  rw [Sem.run_bind, h2, Result.andThen_ok, h3 op hop]
  rcases hop with rfl | rfl
  · simp [h1]
  · simp [h1]

theorem snd_move {P : Program} {L : Loc} {h h' : List Ob} {w : World} (H : HRel L h w) {n : Nat} {t : Nat → V} {a : Act} (r : TRel L w n t a.tmps) {dst : _} {ty : _} {pos : _} {after : _} {guard : _} {x : _} {eo : EOp} {v : V} (hc : compOp P n (.move x) = some eo) (he : evOp eo t h = some (v, h')) :
    GoodOp P L w (execOp a.eval ⟨dst, .move x, ty, pos, after, guard⟩) v h' := by
  simp only [compOp, Option.map_eq_some_iff] at hc
  obtain ⟨e, h1, rfl⟩ := hc
  simp only [evOp, Option.some.injEq, Prod.mk.injEq] at he
  obtain ⟨rfl, rfl⟩ := he
  exact .same H rfl (cOpd_rep r h1)

theorem snd_assign {P : Program} {L : Loc} {h h' : List Ob} {w : World} (H : HRel L h w) {n : Nat} {t : Nat → V} {a : Act} (r : TRel L w n t a.tmps) {dst : _} {ty : _} {pos : _} {after : _} {guard : _} {x : _} {eo : EOp} {v : V} (hc : compOp P n (.assign x) = some eo) (he : evOp eo t h = some (v, h')) :
    GoodOp P L w (execOp a.eval ⟨dst, .assign x, ty, pos, after, guard⟩) v h' := by
  simp only [compOp, Option.map_eq_some_iff] at hc
  obtain ⟨e, h1, rfl⟩ := hc
  simp only [evOp, Option.some.injEq, Prod.mk.injEq] at he
  obtain ⟨rfl, rfl⟩ := he
  exact .same H rfl (cOpd_rep r h1)

theorem snd_pick {P : Program} {L : Loc} {h h' : List Ob} {w : World} (H : HRel L h w) {n : Nat} {t : Nat → V} {a : Act} (r : TRel L w n t a.tmps) {dst : _} {ty : _} {pos : _} {after : _} {guard : _} {c : _} {x : _} {y : _} {eo : EOp} {v : V} (hc : compOp P n (.pick c x y) = some eo) (he : evOp eo t h = some (v, h')) :
    GoodOp P L w (execOp a.eval ⟨dst, .pick c x y, ty, pos, after, guard⟩) v h' := by
  simp only [compOp] at hc
  split at hc
  · rename_i c' x' y' h1 h2 h3
    injection hc with hc; subst hc
    simp only [evOp] at he
    split at he
    · rename_i q hq
      injection he with he; injection he with he1 he2; subst he1; subst he2
      have rc := cOpd_rep r h1
      rw [hq] at rc
      cases q with
      | true => exact .same H (by simp only [execOp]; generalize a.eval c = z at rc; cases rc; simp [asBool]) (cOpd_rep r h2)
      | false => exact .same H (by simp only [execOp]; generalize a.eval c = z at rc; cases rc; simp [asBool]) (cOpd_rep r h3)
    · cases he
  · cases hc

theorem snd_alloc {P : Program} {L : Loc} {h h' : List Ob} {w : World} (H : HRel L h w) {n : Nat} {t : Nat → V} {a : Act} (r : TRel L w n t a.tmps) {dst : _} {ty : _} {pos : _} {after : _} {guard : _} {T : _} {eo : EOp} {v : V} (hc : compOp P n (.alloc T) = some eo) (he : evOp eo t h = some (v, h')) :
    GoodOp P L w (execOp a.eval ⟨dst, .alloc T, ty, pos, after, guard⟩) v h' := by
  simp only [compOp, Option.map_eq_some_iff] at hc
  obtain ⟨z, h1, rfl⟩ := hc
  obtain ⟨i, zv, g1, g2, g3⟩ := zeroOf_spec h1
  exact (alloc_good H g1 g2 g3 he).op

theorem snd_box {P : Program} {L : Loc} {h h' : List Ob} {w : World} (H : HRel L h w) {n : Nat} {t : Nat → V} {a : Act} (r : TRel L w n t a.tmps) {dst : _} {ty : _} {pos : _} {after : _} {guard : _} {T : _} {x : _} {eo : EOp} {v : V} (hc : compOp P n (.box T x) = some eo) (he : evOp eo t h = some (v, h')) :
    GoodOp P L w (execOp a.eval ⟨dst, .box T x, ty, pos, after, guard⟩) v h' := by
  simp only [compOp, Option.map_eq_some_iff] at hc
  obtain ⟨e, h1, rfl⟩ := hc
  exact (box_good H (cOpd_rep r h1) he).op

theorem snd_build {P : Program} {L : Loc} {h h' : List Ob} {w : World} (H : HRel L h w) {n : Nat} {t : Nat → V} {a : Act} (r : TRel L w n t a.tmps) {dst : _} {ty : _} {pos : _} {after : _} {guard : _} {T : _} {ps : _} {eo : EOp} {v : V} (hc : compOp P n (.build T ps) = some eo) (he : evOp eo t h = some (v, h')) :
    GoodOp P L w (execOp a.eval ⟨dst, .build T ps, ty, pos, after, guard⟩) v h' := by
  simp only [compOp] at hc
  split at hc
  · rename_i z place hz hp
    simp only [Option.map_eq_some_iff] at hc
    obtain ⟨qs, h1, rfl⟩ := hc
    simp only [evOp, Option.map_eq_some_iff, Prod.mk.injEq] at he
    obtain ⟨cs, hf, rfl, rfl⟩ := he
    obtain ⟨i, zv, g1, g2, g3⟩ := zeroOf_spec hz
    have rz : Rep L w (.agg z) zv := ofZero_rep g3
    cases rz with
    | agg vs hl hr =>
      obtain ⟨us, f1, f2, f3⟩ := fill_spec _ _ z cs vs (compParts_spec r ps.toList qs h1) hl hr hf
      have hb : P.built T ((ps.map fun (i, x) => (i, a.eval x)).toList) = some us := by
        unfold placesOf at hp
        unfold Program.built
        rw [g1]
        have hlist : (ps.map fun (i, x) => (i, a.eval x)).toList = ps.toList.map fun p => (p.1, a.eval p.2) := by simp
        rw [hlist]
        split at hp
        · rename_i m e hu
          simp only [Option.map_eq_some_iff] at hp
          obtain ⟨ie, q1, rfl⟩ := hp
          simp only [hu, g2, q1]
          exact f1
        · rename_i fs hu
          simp only [Option.map_eq_some_iff] at hp
          obtain ⟨pl, q1, rfl⟩ := hp
          simp only [hu, g2, q1]
          exact f1
        · cases hp
      exact Good.op (.same H (run_build w T _ us hb) (.agg us f2 f3))
  · cases hc

theorem snd_buildSlice {P : Program} {L : Loc} {h h' : List Ob} {w : World} (H : HRel L h w) {n : Nat} {t : Nat → V} {a : Act} (r : TRel L w n t a.tmps) {dst : _} {ty : _} {pos : _} {after : _} {guard : _} {T : _} {len : _} {ps : _} {eo : EOp} {v : V} (hc : compOp P n (.buildSlice T len ps) = some eo) (he : evOp eo t h = some (v, h')) :
    GoodOp P L w (execOp a.eval ⟨dst, .buildSlice T len ps, ty, pos, after, guard⟩) v h' := by
  simp only [compOp] at hc
  split at hc
  · rename_i e hu
    split at hc
    · rename_i i z qs h1 h2 h3
      split at hc
      · rename_i hh
        injection hc with hc; subst hc
        obtain ⟨i', zv, g1, g2, g3⟩ := zeroOf_spec h2
        rw [h1] at g1; injection g1 with g1; subst g1
        have := bslice_good (P := P) H hu h1 g2 g3 hh.1 hh.2 (partsS_spec r ps.toList qs h3) he
        have e : ∀ f : Nat × Operand → Nat × Value, (∀ p, f p = (p.1, a.eval p.2)) → GoodOp P L w (do pure (.value (← Instr.buildSlice T len (ps.map f)))) v h' := by
          intro f hf
          have hlist : ps.map f = (ps.toList.map fun p => (p.1, a.eval p.2)).toArray := by
            have : f = fun p => (p.1, a.eval p.2) := funext hf
            rw [this]; apply Array.ext'; simp
          rw [hlist]
          exact this.op
        exact e _ (fun _ => rfl)
      · cases hc
    · cases hc
  · cases hc

theorem snd_load {P : Program} {L : Loc} {h h' : List Ob} {w : World} (H : HRel L h w) {n : Nat} {t : Nat → V} {a : Act} (r : TRel L w n t a.tmps) {dst : _} {ty : _} {pos : _} {after : _} {guard : _} {T : _} {x : _} {eo : EOp} {v : V} (hc : compOp P n (.load T x) = some eo) (he : evOp eo t h = some (v, h')) :
    GoodOp P L w (execOp a.eval ⟨dst, .load T x, ty, pos, after, guard⟩) v h' := by
  simp only [compOp] at hc
  split at hc
  · rename_i i d e h1 h2 h3
    have hu : (P.underlying T).isSome = true := by rw [h2]; rfl
    split at hc
    · rename_i hs
      injection hc with hc; subst hc
      simp only [evOp, Option.map_eq_some_iff, Prod.mk.injEq] at he
      obtain ⟨c, q, rfl, rfl⟩ := he
      exact (loadN_good H h1 hu hs (cOpd_rep r h3) q).op
    · rename_i hs
      injection hc with hc; subst hc
      simp only [evOp, Option.map_eq_some_iff, Prod.mk.injEq] at he
      obtain ⟨c, q, rfl, rfl⟩ := he
      exact (load1_good H hu (by simpa using hs) (cOpd_rep r h3) q).op
  · cases hc

theorem snd_store {P : Program} {L : Loc} {h h' : List Ob} {w : World} (H : HRel L h w) {n : Nat} {t : Nat → V} {a : Act} (r : TRel L w n t a.tmps) {dst : _} {ty : _} {pos : _} {after : _} {guard : _} {T : _} {x : _} {y : _} {eo : EOp} {v : V} (hc : compOp P n (.store T x y) = some eo) (he : evOp eo t h = some (v, h')) :
    GoodOp P L w (execOp a.eval ⟨dst, .store T x y, ty, pos, after, guard⟩) v h' := by
  simp only [compOp] at hc
  split at hc
  · rename_i i e1 e2 h1 h2 h3
    injection hc with hc; subst hc
    simp only [evOp, Option.map_eq_some_iff, Prod.mk.injEq] at he
    obtain ⟨c, q, rfl, rfl⟩ := he
    exact good_skip (store_good H h1 (cOpd_rep r h2) (cOpd_rep r h3) q)
  · cases hc

theorem snd_nilCheck {P : Program} {L : Loc} {h h' : List Ob} {w : World} (H : HRel L h w) {n : Nat} {t : Nat → V} {a : Act} (r : TRel L w n t a.tmps) {dst : _} {ty : _} {pos : _} {after : _} {guard : _} {x : _} {eo : EOp} {v : V} (hc : compOp P n (.nilCheck x) = some eo) (he : evOp eo t h = some (v, h')) :
    GoodOp P L w (execOp a.eval ⟨dst, .nilCheck x, ty, pos, after, guard⟩) v h' := by
  simp only [compOp, Option.map_eq_some_iff] at hc
  obtain ⟨e, h1, rfl⟩ := hc
  simp only [evOp, Option.map_eq_some_iff, Prod.mk.injEq] at he
  obtain ⟨c, q, rfl, rfl⟩ := he
  have rx := cOpd_rep r h1
  generalize hx : a.eval x = z at rx
  unfold evNilck at q
  split at q
  · rename_i id i j hv
    rw [hv] at rx
    split at q
    · rename_i hal
      injection q with q; subst q
      obtain ⟨p, hp⟩ := alive_at H hal
      cases rx with
      | ptr g => exact .same H (by simp only [execOp, hx]; rfl) (.ptr g)
      | ptrD _ g => rw [hp] at g; cases g
    · cases q
  · rename_i e' j hv
    rw [hv] at rx
    injection q with q; subst q
    cases rx with
    | ref f g1 g2 g3 g4 => exact .same H (by simp only [execOp, hx]; rfl) (.ref f g1 g2 g3 g4)
  · rename_i f cs hv
    rw [hv] at rx
    injection q with q; subst q
    cases rx with
    | fn vs g1 g2 => exact .same H (by simp only [execOp, hx]; rfl) (.fn vs g1 g2)
  · cases q

theorem snd_binOp {P : Program} {L : Loc} {h h' : List Ob} {w : World} (H : HRel L h w) {n : Nat} {t : Nat → V} {a : Act} (r : TRel L w n t a.tmps) {dst : _} {ty : _} {pos : _} {after : _} {guard : _} {op : _} {T : _} {x : _} {y : _} {T2 : _} {eo : EOp} {v : V} (hc : compOp P n (.binOp op T x y T2) = some eo) (he : evOp eo t h = some (v, h')) :
    GoodOp P L w (execOp a.eval ⟨dst, .binOp op T x y T2, ty, pos, after, guard⟩) v h' := by
  simp only [compOp] at hc
  split at hc
  · rename_i e1 e2 h1 h2
    split at hc
    · rename_i hop
      split at hc
      · injection hc with hc; subst hc
        simp only [evOp, Option.map_eq_some_iff, Prod.mk.injEq] at he
        obtain ⟨c, q, rfl, rfl⟩ := he
        exact (binop_run H (cOpd_rep r h1) (cOpd_rep r h2) q).op
      · simp only [Option.map_eq_some_iff] at hc
        obtain ⟨T', hT, rfl⟩ := hc
        simp only [evOp, Option.map_eq_some_iff, Prod.mk.injEq] at he
        obtain ⟨c, q, rfl, rfl⟩ := he
        have := eqop_run (P := P) (x := x) (y := y) H (eqTOf_fits hT) hop (cOpd_rep r h1) (cOpd_rep r h2) q
        simp only [decide_eq_true_eq]
        exact this.op
    · injection hc with hc; subst hc
      simp only [evOp, Option.map_eq_some_iff, Prod.mk.injEq] at he
      obtain ⟨c, q, rfl, rfl⟩ := he
      exact (binop_run H (cOpd_rep r h1) (cOpd_rep r h2) q).op
  · cases hc

theorem snd_unOp {P : Program} {L : Loc} {h h' : List Ob} {w : World} (H : HRel L h w) {n : Nat} {t : Nat → V} {a : Act} (r : TRel L w n t a.tmps) {dst : _} {ty : _} {pos : _} {after : _} {guard : _} {op : _} {T : _} {x : _} {eo : EOp} {v : V} (hc : compOp P n (.unOp op T x) = some eo) (he : evOp eo t h = some (v, h')) :
    GoodOp P L w (execOp a.eval ⟨dst, .unOp op T x, ty, pos, after, guard⟩) v h' := by
  simp only [compOp, Option.map_eq_some_iff] at hc
  obtain ⟨e, h1, rfl⟩ := hc
  simp only [evOp, Option.map_eq_some_iff, Prod.mk.injEq] at he
  obtain ⟨c, q, rfl, rfl⟩ := he
  exact (un_good H (cOpd_rep r h1) q).op

theorem snd_convert {P : Program} {L : Loc} {h h' : List Ob} {w : World} (H : HRel L h w) {n : Nat} {t : Nat → V} {a : Act} (r : TRel L w n t a.tmps) {dst : _} {ty : _} {pos : _} {after : _} {guard : _} {s : _} {d : _} {x : _} {eo : EOp} {v : V} (hc : compOp P n (.convert s d x) = some eo) (he : evOp eo t h = some (v, h')) :
    GoodOp P L w (execOp a.eval ⟨dst, .convert s d x, ty, pos, after, guard⟩) v h' := by
  simp only [compOp] at hc
  split at hc
  · rename_i k1 k e h1 h2 h3
    injection hc with hc; subst hc
    simp only [evOp] at he
    split at he
    · rename_i k2 m hm
      injection he with he; injection he with he1 he2; subst he1; subst he2
      have rx := cOpd_rep r h3
      rw [hm] at rx
      have hx := rx.int_inv
      refine Good.op (.same H (x := .int k (k.wrap m)) ?_ (.int _ _))
      rw [hx]
      simp only [convert, Sem.run_bind, run_underlying h1, run_underlying h2, Result.andThen_ok, Conv.intToInt, Sem.run_pure]
    · cases he
  · rename_i e h1 h2 h3
    injection hc with hc; subst hc
    simp only [evOp] at he
    split at he
    · rename_i l hl
      injection he with he; injection he with he1 he2; subst he1; subst he2
      have rx := cOpd_rep r h3
      rw [hl] at rx
      generalize hx : a.eval x = z at rx
      cases rx
      refine Good.op (.same H (x := .string ⟨l.toArray⟩) ?_ (.str _))
      rw [hx]
      simp only [convert, Sem.run_bind, run_underlying h1, run_underlying h2, Result.andThen_ok, Sem.run_pure]
    · cases he
  · rename_i e0 e h1 h2 h3
    split at hc
    · rename_i h8
      injection hc with hc; subst hc
      simp only [evOp] at he
      split at he
      · rename_i l hl
        injection he with he; injection he with he1 he2; subst he1; subst he2
        have rx := cOpd_rep r h3
        rw [hl] at rx
        have h8' : P.underlying e0 = some (.int .u8) := by
          revert h8; cases P.underlying e0 with
          | none => intro h; cases h
          | some d => cases d <;> intro h <;> first | cases h; done | skip
                      rename_i k; cases k <;> first | rfl | cases h
        exact (toBytes_good H h1 h2 h8' rx).op
      · cases he
    · cases hc
  · rename_i e0 e1 e h1 h2 h3
    split at hc
    · rename_i hsd
      subst hsd
      split at hc
      · rename_i h8
        injection hc with hc; subst hc
        simp only [evOp, Option.map_eq_some_iff, Prod.mk.injEq] at he
        obtain ⟨c, q, rfl, rfl⟩ := he
        have h8' : P.underlying e0 = some (.int .u8) := by
          revert h8; cases P.underlying e0 with
          | none => intro h; cases h
          | some d => cases d <;> intro h <;> first | cases h; done | skip
                      rename_i k; cases k <;> first | rfl | cases h
        exact (strish_good H h1 h8' (cOpd_rep r h3) q).op
      · cases hc
    · cases hc
  · rename_i e0 e h1 h2 h3
    split at hc
    · rename_i h8
      injection hc with hc; subst hc
      simp only [evOp, Option.map_eq_some_iff, Prod.mk.injEq] at he
      obtain ⟨c, q, rfl, rfl⟩ := he
      have h8' : P.underlying e0 = some (.int .u8) := by
        revert h8; cases P.underlying e0 with
        | none => intro h; cases h
        | some d => cases d <;> intro h <;> first | cases h; done | skip
                    rename_i k; cases k <;> first | rfl | cases h
      exact (toStr_good H h1 h8' h2 (cOpd_rep r h3) q).op
    · cases hc
  · cases hc

theorem snd_makeFunc {P : Program} {L : Loc} {h h' : List Ob} {w : World} (H : HRel L h w) {n : Nat} {t : Nat → V} {a : Act} (r : TRel L w n t a.tmps) {dst : _} {ty : _} {pos : _} {after : _} {guard : _} {fn : _} {first : _} {caps : _} {eo : EOp} {v : V} (hc : compOp P n (.makeFunc fn first caps) = some eo) (he : evOp eo t h = some (v, h')) :
    GoodOp P L w (execOp a.eval ⟨dst, .makeFunc fn first caps, ty, pos, after, guard⟩) v h' := by
  cases fn <;> simp only [compOp] at hc <;> first | (cases hc; done) | skip
  split at hc
  · rename_i hf
    simp only [Option.map_eq_some_iff] at hc
    obtain ⟨cs, h1, rfl⟩ := hc
    simp only [evOp, Option.some.injEq, Prod.mk.injEq] at he
    obtain ⟨rfl, rfl⟩ := he
    obtain ⟨g1, g2⟩ := caps_spec r h1
    have hfe : first.map a.eval = #[] := by simp at hf; subst hf; simp
    exact Good.op (.same H (x := .func (.func _) #[] (caps.toList.toArray.map a.eval)) (by simp only [execOp, hfe]; rfl) (.fn _ g1 g2))
  · cases hc

theorem snd_makeMap {P : Program} {L : Loc} {h h' : List Ob} {w : World} (H : HRel L h w) {n : Nat} {t : Nat → V} {a : Act} (r : TRel L w n t a.tmps) {dst : _} {ty : _} {pos : _} {after : _} {guard : _} {T : _} {q : _} {eo : EOp} {v : V} (hc : compOp P n (.makeMap T q) = some eo) (he : evOp eo t h = some (v, h')) :
    GoodOp P L w (execOp a.eval ⟨dst, .makeMap T q, ty, pos, after, guard⟩) v h' := by
  cases q <;> simp only [compOp] at hc <;> first | (cases hc; done) | skip
  injection hc with hc; subst hc
  simp only [evOp, Option.some.injEq, Prod.mk.injEq] at he
  obtain ⟨rfl, rfl⟩ := he
  exact (mkmap_good H (.inl rfl)).op

theorem snd_makeSlice {P : Program} {L : Loc} {h h' : List Ob} {w : World} (H : HRel L h w) {n : Nat} {t : Nat → V} {a : Act} (r : TRel L w n t a.tmps) {dst : _} {ty : _} {pos : _} {after : _} {guard : _} {T : _} {l : _} {c : _} {eo : EOp} {v : V} (hc : compOp P n (.makeSlice T l c) = some eo) (he : evOp eo t h = some (v, h')) :
    GoodOp P L w (execOp a.eval ⟨dst, .makeSlice T l c, ty, pos, after, guard⟩) v h' := by
  simp only [compOp] at hc
  split at hc
  · rename_i e l' c' hu h1 h2
    split at hc
    · rename_i i z h3 h4
      split at hc
      · rename_i hh
        injection hc with hc; subst hc
        obtain ⟨i', zv, g1, g2, g3⟩ := zeroOf_spec h4
        rw [h3] at g1; injection g1 with g1; subst g1
        simp only [evOp] at he
        split at he
        · rename_i k1 l1 k2 c1 q1 q2
          have rl := cOpd_rep r h1
          have rc := cOpd_rep r h2
          rw [q1] at rl; rw [q2] at rc
          have e1 := rl.int_inv
          have e2 := rc.int_inv
          show GoodOp P L w (do pure (.value (← Instr.makeSlice T (a.eval l) (a.eval c)))) v h'
          rw [e1, e2]
          exact (make_good H hu h3 g2 g3 hh.1 hh.2 he).op
        · cases he
      · cases hc
    · cases hc
  · cases hc

theorem snd_slice {P : Program} {L : Loc} {h h' : List Ob} {w : World} (H : HRel L h w) {n : Nat} {t : Nat → V} {a : Act} (r : TRel L w n t a.tmps) {dst : _} {ty : _} {pos : _} {after : _} {guard : _} {T : _} {x : _} {lo : _} {hi : _} {mx : _} {eo : EOp} {v : V} (hc : compOp P n (.slice T x lo hi mx) = some eo) (he : evOp eo t h = some (v, h')) :
    GoodOp P L w (execOp a.eval ⟨dst, .slice T x lo hi mx, ty, pos, after, guard⟩) v h' := by
  simp only [compOp] at hc
  split at hc
  · rename_i x' lo' hi' hu h1 h2 h3 h4
    injection hc with hc; subst hc
    simp only [evOp] at he
    split at he
    · rename_i l hl
      simp only [Option.map_eq_some_iff, Prod.mk.injEq] at he
      obtain ⟨c, q, rfl, rfl⟩ := he
      have rx := cOpd_rep r h1
      rw [hl] at rx
      have hm : mx = none := by cases mx with
        | none => rfl
        | some _ => simp [cOpt] at h4
      subst hm
      exact (slcS_good H hu rx (cOpt_rep r h2) (cOpt_rep r h3) q).op
    · cases he
  · rename_i e x' lo' hi' mx' hu h1 h2 h3 h4
    simp only [Option.map_eq_some_iff] at hc
    obtain ⟨i, hinf, rfl⟩ := hc
    simp only [evOp] at he
    have rx := cOpd_rep r h1
    split at he
    · rename_i id off len hv
      split at he
      · rename_i es s hob
        split at he
        · rename_i hs
          subst hs
          simp only [Option.map_eq_some_iff, Prod.mk.injEq] at he
          obtain ⟨c, q, rfl, rfl⟩ := he
          rw [hv] at rx
          exact (slcL_good H hu hinf (fun _ _ _ z => by injection z with z1 _ _; subst z1; exact ⟨es, hob⟩) (fun _ z => by cases z) rx (cOpt_rep r h2) (cOpt_rep r h3) (cOpt_rep r h4) q).op
        · cases he
      · cases he
    · rename_i es hv
      split at he
      · rename_i hh
        simp only [Option.map_eq_some_iff, Prod.mk.injEq] at he
        obtain ⟨c, q, rfl, rfl⟩ := he
        rw [hv] at rx
        exact (slcL_good H hu hinf (fun _ _ _ z => by cases z) (fun _ z => by injection z with z; subst z; exact fun k e hk => (headOk_spec rx hh k e hk).1) rx (cOpt_rep r h2) (cOpt_rep r h3) (cOpt_rep r h4) q).op
      · cases he
    · rename_i hv1 hv2
      simp only [Option.map_eq_some_iff, Prod.mk.injEq] at he
      obtain ⟨c, q, rfl, rfl⟩ := he
      exact (slcL_good H hu hinf (fun _ _ _ z => absurd z (hv1 _ _ _)) (fun _ z => absurd z (hv2 _)) rx (cOpt_rep r h2) (cOpt_rep r h3) (cOpt_rep r h4) q).op
  · rename_i k e x' lo' hi' hu h1 h2 h3 h4
    simp only [Option.bind_eq_some_iff] at hc
    obtain ⟨i, hinf, hc⟩ := hc
    split at hc
    · rename_i hp
      injection hc with hc; subst hc
      simp only [evOp, Option.map_eq_some_iff, Prod.mk.injEq] at he
      obtain ⟨c, q, rfl, rfl⟩ := he
      have hm : mx = none := by cases mx with
        | none => rfl
        | some _ => simp [cOpt] at h4
      subst hm
      exact (slcA_good H hu hinf hp (cOpd_rep r h1) (cOpt_rep r h2) (cOpt_rep r h3) q).op
    · cases hc
  · cases hc

theorem snd_fieldAddr {P : Program} {L : Loc} {h h' : List Ob} {w : World} (H : HRel L h w) {n : Nat} {t : Nat → V} {a : Act} (r : TRel L w n t a.tmps) {dst : _} {ty : _} {pos : _} {after : _} {guard : _} {T : _} {x : _} {k : _} {eo : EOp} {v : V} (hc : compOp P n (.fieldAddr T x k) = some eo) (he : evOp eo t h = some (v, h')) :
    GoodOp P L w (execOp a.eval ⟨dst, .fieldAddr T x k, ty, pos, after, guard⟩) v h' := by
  simp only [compOp] at hc
  split at hc
  · rename_i fs x' hu h1
    split at hc
    · rename_i g hg
      simp only [Option.bind_eq_some_iff] at hc
      obtain ⟨i, hinf, hc⟩ := hc
      split at hc
      · rename_i hz
        injection hc with hc; subst hc
        simp only [evOp] at he
        have rx := cOpd_rep r h1
        split at he
        · rename_i id b j hv
          split at he
          · rename_i hal
            injection he with he; injection he with he1 he2; subst he1; subst he2
            exact (faddr_good H (fun id' i' j' z => by rw [hv] at z; injection z with z1 _ _; rw [← z1]; exact hal) hu hg hinf hz rx (by rw [hv]; rfl)).op
          · cases he
        · rename_i e' j hv
          injection he with he; injection he with he1 he2; subst he1; subst he2
          exact (faddr_good H (fun id' i' j' z => by rw [hv] at z; cases z) hu hg hinf hz rx (by rw [hv]; rfl)).op
        · cases he
      · cases hc
    · cases hc
  · cases hc

theorem snd_field {P : Program} {L : Loc} {h h' : List Ob} {w : World} (H : HRel L h w) {n : Nat} {t : Nat → V} {a : Act} (r : TRel L w n t a.tmps) {dst : _} {ty : _} {pos : _} {after : _} {guard : _} {T : _} {x : _} {k : _} {eo : EOp} {v : V} (hc : compOp P n (.field T x k) = some eo) (he : evOp eo t h = some (v, h')) :
    GoodOp P L w (execOp a.eval ⟨dst, .field T x k, ty, pos, after, guard⟩) v h' := by
  simp only [compOp] at hc
  split at hc
  · rename_i fs x' hu h1
    split at hc
    · rename_i g hg
      split at hc
      · rename_i i d hinf hd
        have hs : (P.underlying g.type).isSome = true := by rw [hd]; rfl
        split at hc
        · rename_i hst
          injection hc with hc; subst hc
          simp only [evOp, Option.map_eq_some_iff, Prod.mk.injEq] at he
          obtain ⟨c, q, rfl, rfl⟩ := he
          exact (field_good H hu hg hinf hs (cOpd_rep r h1) (.inr ⟨hst, q⟩)).op
        · rename_i hst
          injection hc with hc; subst hc
          simp only [evOp, Option.map_eq_some_iff, Prod.mk.injEq] at he
          obtain ⟨c, q, rfl, rfl⟩ := he
          exact (field_good H hu hg hinf hs (cOpd_rep r h1) (.inl ⟨by simpa using hst, q⟩)).op
      · cases hc
    · cases hc
  · cases hc

theorem snd_indexAddr {P : Program} {L : Loc} {h h' : List Ob} {w : World} (H : HRel L h w) {n : Nat} {t : Nat → V} {a : Act} (r : TRel L w n t a.tmps) {dst : _} {ty : _} {pos : _} {after : _} {guard : _} {T : _} {x : _} {i : _} {eo : EOp} {v : V} (hc : compOp P n (.indexAddr T x i) = some eo) (he : evOp eo t h = some (v, h')) :
    GoodOp P L w (execOp a.eval ⟨dst, .indexAddr T x i, ty, pos, after, guard⟩) v h' := by
  simp only [compOp] at hc
  split at hc
  · rename_i k e x' i' hu h1 h2
    simp only [Option.map_eq_some_iff] at hc
    obtain ⟨ie, hinf, rfl⟩ := hc
    simp only [evOp] at he
    split at he
    · rename_i kk m hm
      simp only [Option.map_eq_some_iff, Prod.mk.injEq] at he
      obtain ⟨c, q, rfl, rfl⟩ := he
      have ri := cOpd_rep r h2
      rw [hm] at ri
      show GoodOp P L w (do pure (.value (← Instr.indexAt T (a.eval x) (a.eval i)))) _ _
      rw [ri.int_inv]
      exact (iaddrA_good H hu hinf (cOpd_rep r h1) q).op
    · cases he
  · rename_i e x' i' hu h1 h2
    simp only [Option.map_eq_some_iff] at hc
    obtain ⟨ie, hinf, rfl⟩ := hc
    simp only [evOp] at he
    split at he
    · rename_i kk m hm
      simp only [Option.map_eq_some_iff, Prod.mk.injEq] at he
      obtain ⟨c, q, rfl, rfl⟩ := he
      have ri := cOpd_rep r h2
      rw [hm] at ri
      show GoodOp P L w (do pure (.value (← Instr.indexAt T (a.eval x) (a.eval i)))) _ _
      rw [ri.int_inv]
      exact (iaddrL_good H hu hinf (cOpd_rep r h1) q).op
    · cases he
  · cases hc

theorem snd_index {P : Program} {L : Loc} {h h' : List Ob} {w : World} (H : HRel L h w) {n : Nat} {t : Nat → V} {a : Act} (r : TRel L w n t a.tmps) {dst : _} {ty : _} {pos : _} {after : _} {guard : _} {T : _} {x : _} {i : _} {eo : EOp} {v : V} (hc : compOp P n (.index T x i) = some eo) (he : evOp eo t h = some (v, h')) :
    GoodOp P L w (execOp a.eval ⟨dst, .index T x i, ty, pos, after, guard⟩) v h' := by
  simp only [compOp] at hc
  split at hc
  · rename_i x' i' hu h1 h2
    injection hc with hc; subst hc
    simp only [evOp] at he
    split at he
    · rename_i l kk m hl hm
      simp only [Option.map_eq_some_iff, Prod.mk.injEq] at he
      obtain ⟨c, q, rfl, rfl⟩ := he
      have rx := cOpd_rep r h1
      have ri := cOpd_rep r h2
      rw [hl] at rx; rw [hm] at ri
      show GoodOp P L w (do pure (.value (← Instr.index T (a.eval x) (a.eval i)))) _ _
      rw [ri.int_inv]
      exact (idxS_good H hu rx q).op
    · cases he
  · cases hc

theorem snd_extract {P : Program} {L : Loc} {h h' : List Ob} {w : World} (H : HRel L h w) {n : Nat} {t : Nat → V} {a : Act} (r : TRel L w n t a.tmps) {dst : _} {ty : _} {pos : _} {after : _} {guard : _} {x : _} {i : _} {eo : EOp} {v : V} (hc : compOp P n (.extract x i) = some eo) (he : evOp eo t h = some (v, h')) :
    GoodOp P L w (execOp a.eval ⟨dst, .extract x i, ty, pos, after, guard⟩) v h' := by
  simp only [compOp, Option.map_eq_some_iff] at hc
  obtain ⟨e, h1, rfl⟩ := hc
  simp only [evOp, Option.map_eq_some_iff, Prod.mk.injEq] at he
  obtain ⟨c, q, rfl, rfl⟩ := he
  exact (ext_good H (cOpd_rep r h1) q).op

theorem snd_lookup {P : Program} {L : Loc} {h h' : List Ob} {w : World} (H : HRel L h w) {n : Nat} {t : Nat → V} {a : Act} (r : TRel L w n t a.tmps) {dst : _} {ty : _} {pos : _} {after : _} {guard : _} {T : _} {m : _} {k : _} {ok : _} {eo : EOp} {v : V} (hc : compOp P n (.lookup T m k ok) = some eo) (he : evOp eo t h = some (v, h')) :
    GoodOp P L w (execOp a.eval ⟨dst, .lookup T m k ok, ty, pos, after, guard⟩) v h' := by
  simp only [compOp] at hc
  split at hc
  · rename_i kT eT m' k' hu h1 h2
    split at hc
    · rename_i kt z h3 h4
      injection hc with hc; subst hc
      obtain ⟨i, zv, g1, g2, g3⟩ := zeroOf_spec h4
      simp only [evOp, Option.map_eq_some_iff, Prod.mk.injEq] at he
      obtain ⟨c, q, rfl, rfl⟩ := he
      exact (lookup_good H hu (lkOf_fits h3) g1 g2 g3 (cOpd_rep r h1) (cOpd_rep r h2) q).op
    · cases hc
  · cases hc

theorem snd_mapUpdate {P : Program} {L : Loc} {h h' : List Ob} {w : World} (H : HRel L h w) {n : Nat} {t : Nat → V} {a : Act} (r : TRel L w n t a.tmps) {dst : _} {ty : _} {pos : _} {after : _} {guard : _} {T : _} {m : _} {k : _} {x : _} {eo : EOp} {v : V} (hc : compOp P n (.mapUpdate T m k x) = some eo) (he : evOp eo t h = some (v, h')) :
    GoodOp P L w (execOp a.eval ⟨dst, .mapUpdate T m k x, ty, pos, after, guard⟩) v h' := by
  simp only [compOp] at hc
  split at hc
  · rename_i kT eT m' k' x' hu h1 h2 h3
    simp only [Option.map_eq_some_iff] at hc
    obtain ⟨kt, h4, rfl⟩ := hc
    simp only [evOp, Option.map_eq_some_iff, Prod.mk.injEq] at he
    obtain ⟨c, q, rfl, rfl⟩ := he
    exact good_skip (mapUpd_good H hu (lkOf_fits h4) (cOpd_rep r h1) (cOpd_rep r h2) (cOpd_rep r h3) q)
  · cases hc

theorem snd_call {P : Program} {L : Loc} {h h' : List Ob} {w : World} (H : HRel L h w) {n : Nat} {t : Nat → V} {a : Act} (r : TRel L w n t a.tmps) {dst : _} {ty : _} {pos : _} {after : _} {guard : _} {c : _} {eo : EOp} {v : V} (hc : compOp P n (.call c) = some eo) (he : evOp eo t h = some (v, h')) :
    GoodOp P L w (execOp a.eval ⟨dst, .call c, ty, pos, after, guard⟩) v h' := by
  obtain ⟨callee, xs, ts⟩ := c
  cases callee <;> simp only [compOp] at hc <;> first | (cases hc; done) | skip
  rename_i b
  rw [Go.BigFrame.execOp_builtin]
  unfold compBuiltin at hc
  split at hc
  · -- len
    rename_i t0 ts' x hts hxs
    have hxs' : xs = #[x] := by rw [← Array.toArray_toList (xs := xs), hxs]
    have hmp : Array.map a.eval #[x] = #[a.eval x] := by simp
    have hts' : ts[0]? = some t0 := by rw [← Array.getElem?_toList, hts]; rfl
    subst hxs'
    rw [hmp]
    split at hc
    · rename_i e hu h1
      injection hc with hc; subst hc
      simp only [evOp] at he
      split at he
      · rename_i l hl
        injection he with he; injection he with he1 he2; subst he1; subst he2
        have rx := cOpd_rep r h1
        rw [hl] at rx
        exact (lenS_good H hu hts' rx).op
      · cases he
    · rename_i e0 e hu h1
      injection hc with hc; subst hc
      simp only [evOp, Option.map_eq_some_iff, Prod.mk.injEq] at he
      obtain ⟨c, q, rfl, rfl⟩ := he
      exact (lenL_good H hu hts' (cOpd_rep r h1) q).op
    · rename_i e0 e1 e hu h1
      injection hc with hc; subst hc
      simp only [evOp, Option.map_eq_some_iff, Prod.mk.injEq] at he
      obtain ⟨c, q, rfl, rfl⟩ := he
      exact (lenM_good H hu hts' (cOpd_rep r h1) q).op
    · cases hc
  · -- cap
    rename_i t0 ts' x hts hxs
    have hxs' : xs = #[x] := by rw [← Array.toArray_toList (xs := xs), hxs]
    have hmp : Array.map a.eval #[x] = #[a.eval x] := by simp
    have hts' : ts[0]? = some t0 := by rw [← Array.getElem?_toList, hts]; rfl
    subst hxs'
    rw [hmp]
    split at hc
    · rename_i e0 e hu h1
      injection hc with hc; subst hc
      simp only [evOp, Option.map_eq_some_iff, Prod.mk.injEq] at he
      obtain ⟨c, q, rfl, rfl⟩ := he
      exact (cap_good H hu hts' (cOpd_rep r h1) q).op
    · cases hc
  · -- append
    rename_i t0 t2 x y hts hxs
    have hxs' : xs = #[x, y] := by rw [← Array.toArray_toList (xs := xs), hxs]
    have hmp : Array.map a.eval #[x, y] = #[a.eval x, a.eval y] := by simp
    have hts' : ts = #[t0, t2] := by rw [← Array.toArray_toList (xs := ts), hts]
    subst hxs'
    rw [hmp]; subst hts'
    split at hc
    · rename_i e k2 x' y' hu hu2 h1 h2
      split at hc
      · rename_i i hinf
        split at hc
        · rename_i hz
          have hz' : i.zero = some (.int .u8 0) := hz
          simp only [if_true] at hc
          split at hc
          · rename_i hh
            injection hc with hc; subst hc
            simp only [evOp] at he
            split at he
            · rename_i kk m hm
              have ry := cOpd_rep r h2
              rw [hm] at ry
              have g := appZ_good (P := P) (ts := #[t0, t2]) (ty := ty) (kk := kk) H rfl rfl hu hu2 hinf hz' hh.1 hh.2 (cOpd_rep r h1) he
              rw [ry.int_inv]
              exact g.op
            · cases he
          · cases hc
        · simp at hc
      · cases hc
    · cases hc
    · rename_i e u2 x' y' hne0 hne hu hu2 h1 h2
      split at hc
      · rename_i i hinf
        split at hc
        · rename_i z hz
          split at hc
          · rename_i hh
            injection hc with hc; subst hc
            simp only [evOp, Option.bind_eq_some_iff] at he
            obtain ⟨es, q1, q2⟩ := he
            exact (app_good H ⟨rfl, rfl, hu, hu2, fun k hk => hne _ (by rw [← hk]) , hinf, hz, hh.1, hh.2.1, hh.2.2⟩ (cOpd_rep r h1) (cOpd_rep r h2) q1 q2).op
          · cases hc
        · cases hc
      · cases hc
    · cases hc
  · -- copy
    rename_i t0 ts' x y hts hxs
    have hxs' : xs = #[x, y] := by rw [← Array.toArray_toList (xs := xs), hxs]
    have hmp : Array.map a.eval #[x, y] = #[a.eval x, a.eval y] := by simp
    have hts' : ts[0]? = some t0 := by rw [← Array.getElem?_toList, hts]; rfl
    subst hxs'
    rw [hmp]
    split at hc
    · rename_i e x' y' hu h1 h2
      split at hc
      · rename_i i hinf
        split at hc
        · rename_i hp
          injection hc with hc; subst hc
          simp only [evOp, Option.bind_eq_some_iff] at he
          obtain ⟨es, q1, q2⟩ := he
          exact (copy_good H hts' hu hinf hp (cOpd_rep r h1) (cOpd_rep r h2) q1 q2).op
        · cases hc
      · cases hc
    · cases hc
  · -- min
    rename_i x y hxs
    have hxs' : xs = #[x, y] := by rw [← Array.toArray_toList (xs := xs), hxs]
    have hmp : Array.map a.eval #[x, y] = #[a.eval x, a.eval y] := by simp
    subst hxs'
    rw [hmp]
    split at hc
    · rename_i x' y' h1 h2
      injection hc with hc; subst hc
      simp only [evOp, Option.map_eq_some_iff, Prod.mk.injEq] at he
      obtain ⟨c, q, rfl, rfl⟩ := he
      have := minmax_good (P := P) (ts := ts) (ty := ty) H (cOpd_rep r h1) (cOpd_rep r h2) q
      exact this.op
    · cases hc
  · -- max
    rename_i x y hxs
    have hxs' : xs = #[x, y] := by rw [← Array.toArray_toList (xs := xs), hxs]
    have hmp : Array.map a.eval #[x, y] = #[a.eval x, a.eval y] := by simp
    subst hxs'
    rw [hmp]
    split at hc
    · rename_i x' y' h1 h2
      injection hc with hc; subst hc
      simp only [evOp, Option.map_eq_some_iff, Prod.mk.injEq] at he
      obtain ⟨c, q, rfl, rfl⟩ := he
      have := minmax_good (P := P) (ts := ts) (ty := ty) H (cOpd_rep r h1) (cOpd_rep r h2) q
      exact this.op
    · cases hc
  · -- delete
    rename_i t0 ts' x y hts hxs
    have hxs' : xs = #[x, y] := by rw [← Array.toArray_toList (xs := xs), hxs]
    have hmp : Array.map a.eval #[x, y] = #[a.eval x, a.eval y] := by simp
    have hts' : ts[0]? = some t0 := by rw [← Array.getElem?_toList, hts]; rfl
    subst hxs'
    rw [hmp]
    split at hc
    · rename_i kT eT x' y' hu h1 h2
      simp only [Option.map_eq_some_iff] at hc
      obtain ⟨kt, h4, rfl⟩ := hc
      simp only [evOp, Option.map_eq_some_iff, Prod.mk.injEq] at he
      obtain ⟨c, q, rfl, rfl⟩ := he
      exact (delete_good H hts' hu (lkOf_fits h4) (cOpd_rep r h1) (cOpd_rep r h2) q).op
    · cases hc
  · cases hc

theorem snd_range {P : Program} {L : Loc} {h h' : List Ob} {w : World} (H : HRel L h w) {n : Nat} {t : Nat → V} {a : Act} (r : TRel L w n t a.tmps) {dst : _} {ty : _} {pos : _} {after : _} {guard : _} {T : _} {x : _} {eo : EOp} {v : V} (hc : compOp P n (.range T x) = some eo) (he : evOp eo t h = some (v, h')) :
    GoodOp P L w (execOp a.eval ⟨dst, .range T x, ty, pos, after, guard⟩) v h' := by
  simp only [compOp] at hc
  split at hc
  · rename_i e hu h1
    injection hc with hc; subst hc
    exact (rangeS_good H hu (cOpd_rep r h1) he).op
  · rename_i e hu h1
    injection hc with hc; subst hc
    exact (rangeM_good H hu (cOpd_rep r h1) he).op
  · cases hc

theorem snd_next {P : Program} {L : Loc} {h h' : List Ob} {w : World} (H : HRel L h w) {n : Nat} {t : Nat → V} {a : Act} (r : TRel L w n t a.tmps) {dst : _} {ty : _} {pos : _} {after : _} {guard : _} {x : _} {q : _} {eo : EOp} {v : V} (hc : compOp P n (.next x q) = some eo) (he : evOp eo t h = some (v, h')) :
    GoodOp P L w (execOp a.eval ⟨dst, .next x q, ty, pos, after, guard⟩) v h' := by
  cases q <;> simp only [compOp] at hc <;> first | (cases hc; done) | skip
  simp only [Option.map_eq_some_iff] at hc
  obtain ⟨e, h1, rfl⟩ := hc
  exact (nextS_good H (cOpd_rep r h1) he).op

theorem snd_entry {P : Program} {L : Loc} {h h' : List Ob} {w : World} (H : HRel L h w) {n : Nat} {t : Nat → V} {a : Act} (r : TRel L w n t a.tmps) {dst : _} {ty : _} {pos : _} {after : _} {guard : _} {x : _} {eo : EOp} {v : V} (hc : compOp P n (.entry x) = some eo) (he : evOp eo t h = some (v, h')) :
    GoodOp P L w (execOp a.eval ⟨dst, .entry x, ty, pos, after, guard⟩) v h' := by
  simp only [compOp, Option.map_eq_some_iff] at hc
  obtain ⟨e, h1, rfl⟩ := hc
  simp only [evOp, Option.map_eq_some_iff, Prod.mk.injEq] at he
  obtain ⟨c, q, rfl, rfl⟩ := he
  exact (entry_good H (cOpd_rep r h1) q).op

theorem evOp_sound {P : Program} {L : Loc} {h h' : List Ob} {w : World} (H : HRel L h w) {n : Nat} {t : Nat → V} {a : Act} (r : TRel L w n t a.tmps) {o : Oper} {eo : EOp} {v : V} (hc : compOp P n o.op = some eo) (he : evOp eo t h = some (v, h')) :
    GoodOp P L w (execOp a.eval o) v h' := by
  obtain ⟨dst, op, ty, pos, after, guard⟩ := o
  simp only at hc
  cases op
  case move x => exact snd_move H r hc he
  case assign x => exact snd_assign H r hc he
  case pick c x y => exact snd_pick H r hc he
  case alloc T => exact snd_alloc H r hc he
  case box T x => exact snd_box H r hc he
  case build T ps => exact snd_build H r hc he
  case buildSlice T len ps => exact snd_buildSlice H r hc he
  case load T x => exact snd_load H r hc he
  case store T x y => exact snd_store H r hc he
  case nilCheck x => exact snd_nilCheck H r hc he
  case binOp op T x y T2 => exact snd_binOp H r hc he
  case unOp op T x => exact snd_unOp H r hc he
  case convert s d x => exact snd_convert H r hc he
  case makeFunc fn first caps => exact snd_makeFunc H r hc he
  case makeMap T q => exact snd_makeMap H r hc he
  case makeSlice T l c => exact snd_makeSlice H r hc he
  case slice T x lo hi mx => exact snd_slice H r hc he
  case fieldAddr T x k => exact snd_fieldAddr H r hc he
  case field T x k => exact snd_field H r hc he
  case indexAddr T x i => exact snd_indexAddr H r hc he
  case index T x i => exact snd_index H r hc he
  case extract x i => exact snd_extract H r hc he
  case lookup T m k ok => exact snd_lookup H r hc he
  case mapUpdate T m k x => exact snd_mapUpdate H r hc he
  case call c => exact snd_call H r hc he
  case range T x => exact snd_range H r hc he
  case next x q => exact snd_next H r hc he
  case entry x => exact snd_entry H r hc he
  all_goals simp [compOp] at hc

end Go.Proofs.Ytdcdmpgigmhhpaa.E
