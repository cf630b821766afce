/- The layer E, part 7: slices and strings cut, appended, copied, made; bytes and strings. No condition. -/
import Derived.Test.YtdcdmpgigmhhpaaE6
namespace Go.Proofs.Ytdcdmpgigmhhpaa.E
set_option linter.unusedSimpArgs false
set_option linter.unusedVariables false

/-! ### Cuts -/
def bndV : Option V → Nat → Option Nat
  | none, d => some d
  | some (.int _ i), _ => if 0 ≤ i then some i.toNat else none
  | _, _ => none

/-- What a bound's value is in the machine. -/
def BRep (L : Loc) (w : World) (o : Option V) (x : Option Value) : Prop :=
  match o, x with
  | none, none => True
  | some v, some y => Rep L w v y
  | _, _ => False

theorem run_bound {P : Program} {L : Loc} {w : World} {o : Option V} {x : Option Value} {d n y : Nat} {code : BoundsCode} (h : BRep L w o x) (hb : bndV o d = some n) (hn : o ≠ none → n ≤ y) :
    (o = none ∧ x = none ∧ n = d) ∨ (∃ v, x = some v ∧ (Instr.sliceBound v y code).run P w = .ok n w) := by
  cases o with
  | none => cases x with
    | none => left; simp [bndV] at hb; exact ⟨rfl, rfl, hb.symm⟩
    | some _ => exact h.elim
  | some v => cases x with
    | none => exact h.elim
    | some z =>
      right
      have h : Rep L w v z := h
      have hn := hn (by simp)
      cases v <;> simp [bndV] at hb
      rename_i k i
      obtain ⟨h0, rfl⟩ := hb
      cases h
      refine ⟨_, rfl, ?_⟩
      simp only [Instr.sliceBound, asIntOf, Sem.run_bind, Sem.run_pure, Result.andThen_ok]
      rw [if_pos ⟨h0, by omega⟩]
      rfl

theorem run_sliceBounds {P : Program} {L : Loc} {w : World} {isS : Bool} {len cap lo hi m : Nat} {a b c : Option V} {x y z : Option Value} (ha : BRep L w a x) (hb : BRep L w b y) (hc : BRep L w c z)
    (h1 : bndV c cap = some m) (h2 : bndV b len = some hi) (h3 : bndV a 0 = some lo) (hm : m ≤ cap) (hh : hi ≤ m) (hl : lo ≤ hi) (hbc : c ≠ none → b ≠ none) :
    (Instr.sliceBounds isS len cap x y z).run P w = .ok (lo, hi, m) w := by
  have e3 : (x = none ∧ lo = 0) ∨ (∃ v, x = some v ∧ ∀ code, (Instr.sliceBound v hi code).run P w = .ok lo w) := by
    cases x with
    | none =>
      rcases run_bound (P := P) (code := .sliceB) ha h3 (fun _ => hl) with ⟨_, _, q⟩ | ⟨v, q, _⟩
      · exact .inl ⟨rfl, q⟩
      · cases q
    | some v =>
      refine .inr ⟨v, rfl, fun code => ?_⟩
      rcases run_bound (P := P) (code := code) ha h3 (fun _ => hl) with ⟨_, q, _⟩ | ⟨v', q, e⟩
      · cases q
      · injection q with q; subst q; exact e
  rcases run_bound (P := P) (code := if isS then .slice3Acap else .slice3Alen) hc h1 (fun _ => hm) with ⟨hcn, rfl, rfl⟩ | ⟨v, rfl, e1⟩
  · rcases run_bound (P := P) (code := if isS then .sliceAcap else .sliceAlen) hb h2 (fun _ => hh) with ⟨_, rfl, rfl⟩ | ⟨u, rfl, e2⟩
    · rcases e3 with ⟨rfl, rfl⟩ | ⟨v', rfl, e3⟩
      · simp only [Instr.sliceBounds, Sem.run_bind, Sem.run_pure, Result.andThen_ok]
      · simp only [Instr.sliceBounds, Sem.run_bind, Sem.run_pure, Result.andThen_ok, e3]
    · rcases e3 with ⟨rfl, rfl⟩ | ⟨v', rfl, e3⟩
      · simp only [Instr.sliceBounds, Sem.run_bind, Sem.run_pure, Result.andThen_ok, e2]
      · simp only [Instr.sliceBounds, Sem.run_bind, Sem.run_pure, Result.andThen_ok, e2, e3]
  · have hbn : b ≠ none := hbc (by intro e; subst e; exact hc.elim)
    rcases run_bound (P := P) (code := .slice3B) hb h2 (fun _ => hh) with ⟨q, _⟩ | ⟨u, rfl, e2⟩
    · exact absurd q hbn
    · rcases e3 with ⟨rfl, rfl⟩ | ⟨v', rfl, e3⟩
      · simp only [Instr.sliceBounds, Sem.run_bind, Sem.run_pure, Result.andThen_ok, e1, e2]
      · simp only [Instr.sliceBounds, Sem.run_bind, Sem.run_pure, Result.andThen_ok, e1, e2, e3]

def evSlcS (l : List UInt8) (a b : Option V) : Option V :=
  match bndV a 0, bndV b l.length with
  | some lo, some hi => if lo ≤ hi ∧ hi ≤ l.length then some (.str ((l.drop lo).take (hi - lo))) else none
  | _, _ => none

theorem slcS_good {P : Program} {L : Loc} {h : List Ob} {w : World} (H : HRel L h w) {t : TypeId} {l : List UInt8} {x : Value} {a b : Option V} {y z : Option Value} {c : V} (hu : P.underlying t = some .string)
    (r : Rep L w (.str l) x) (ha : BRep L w a y) (hb : BRep L w b z) (he : evSlcS l a b = some c) : Good P L w (Instr.sliceAt t x y z none) c h := by
  unfold evSlcS at he
  split at he
  · rename_i lo hi h1 h2
    split at he
    · rename_i hle
      injection he with he; subst he
      cases r
      have hs : (⟨l.toArray⟩ : ByteArray).size = l.length := by simp [ByteArray.size]
      have hb' := run_sliceBounds (P := P) (isS := false) (len := l.length) (cap := l.length) (m := l.length) (c := none) (z := none) ha hb trivial rfl h2 h1 (Nat.le_refl _) hle.2 hle.1 (fun h => absurd rfl h)
      refine .same H (x := .string ⟨((l.drop lo).take (hi - lo)).toArray⟩) ?_ (.str _)
      have he : (⟨l.toArray⟩ : ByteArray).extract lo hi = ⟨((l.drop lo).take (hi - lo)).toArray⟩ := by
        have := Lib.extract_data ⟨l.toArray⟩ lo hi
        rw [← Go.Joins.bytes_eta ((⟨l.toArray⟩ : ByteArray).extract lo hi), this]
      simp only [Instr.sliceAt, Instr.slice, Sem.run_bind, run_underlying hu, Result.andThen_ok, hs, hb', Sem.run_pure, Option.isSome_none, Bool.false_eq_true, if_false, he]
    · cases he
  · cases he

def evSlcL (h : List Ob) (v : V) (a b c : Option V) : Option V :=
  match v with
  | .nils => match bndV a 0, bndV b 0, bndV c 0 with
    | some 0, some 0, some 0 => if c.isSome && b.isNone then none else some .nils
    | _, _, _ => none
  | .esl => match bndV a 0, bndV b 0, bndV c 0 with
    | some 0, some 0, some 0 => if c.isSome && b.isNone then none else some .esl
    | _, _, _ => none
  | .hsl id off len => if aliveB h id then
      match bndV a 0, bndV b len with
      | some lo, some hi => if lo ≤ hi ∧ hi ≤ len then
          match c with
          | none => if lo = hi ∧ 0 < lo then some (.sl []) else some (.hsl id (off + lo) (hi - lo))
          | some (.int _ m) => if b.isSome ∧ lo = hi ∧ m = hi then some .esl else none
          | _ => none
        else none
      | _, _ => none
    else none
  | .sl es => match bndV a 0, bndV b es.length with
    | some lo, some hi => if lo ≤ hi ∧ hi ≤ es.length then
        match c with
        | none => some (.sl ((es.drop lo).take (hi - lo)))
        | some (.int _ m) => if b.isSome ∧ lo = hi ∧ m = hi then some .esl else none
        | _ => none
      else none
    | _, _ => none
  | _ => none

theorem slcL_good {P : Program} {L : Loc} {h : List Ob} {w : World} (H : HRel L h w) {t e : TypeId} {i : TypeInfo} {v : V} {x : Value} {a b c : Option V} {y z u : Option Value} {r : V} (hu : P.underlying t = some (.slice e)) (hinf : P.info? e = some i)
    (hrow : ∀ id off len, v = .hsl id off len → ∃ es, h[id]? = some (.row es i.size)) (hel : ∀ es, v = .sl es → ∀ (k : Nat) (e : V), es[k]? = some e → e.cells.length = i.size)
    (rep : Rep L w v x) (ha : BRep L w a y) (hb : BRep L w b z) (hc : BRep L w c u) (he : evSlcL h v a b c = some r) : Good P L w (Instr.sliceAt t x y z u) r h := by
  have run : ∀ (ad : Option Addr) (len cap lo hi m : Nat), x = .slice ad len cap → (Instr.sliceBounds true len cap y z u).run P w = .ok (lo, hi, m) w →
      (Instr.sliceAt t x y z u).run P w = .ok (.slice (if m = lo then ad else ad.map (·.add (lo * i.size))) (hi - lo) (m - lo)) w := by
    intro ad len cap lo hi m hx hr
    subst hx
    simp only [Instr.sliceAt, Instr.slice, Sem.run_bind, run_underlying hu, Result.andThen_ok, hr, run_sizeOf w hinf, Sem.run_pure]
  unfold evSlcL at he
  split at he
  · split at he
    · rename_i h1 h2 h3
      split at he
      · cases he
      · rename_i hcb
        injection he with he; subst he
        cases rep
        have hr := run_sliceBounds (P := P) (isS := true) (len := 0) (cap := 0) ha hb hc h3 h2 h1 (Nat.le_refl _) (Nat.le_refl _) (Nat.le_refl _) (fun q q' => hcb (by subst q'; cases c <;> simp at q ⊢))
        exact .same H (run none 0 0 0 0 0 rfl hr) .nils
    · cases he
  · split at he
    · rename_i h1 h2 h3
      split at he
      · cases he
      · rename_i hcb
        injection he with he; subst he
        cases rep
        have hr := run_sliceBounds (P := P) (isS := true) (len := 0) (cap := 0) ha hb hc h3 h2 h1 (Nat.le_refl _) (Nat.le_refl _) (Nat.le_refl _) (fun q q' => hcb (by subst q'; cases c <;> simp at q ⊢))
        exact .same H (run _ 0 0 0 0 0 rfl hr) (by rw [if_pos rfl]; exact .esl _)
    · cases he
  · rename_i id off len
    split at he
    · rename_i hal
      obtain ⟨p, hp⟩ := alive_at H hal
      obtain ⟨es, hob⟩ := hrow _ _ _ rfl
      obtain ⟨b0, base, cc, ee, fr, g1, g2, g3, g4, g5⟩ := H.obs id _ hob
      split at he
      · rename_i lo hi h1 h2
        split at he
        · rename_i hle
          cases rep with
          | @hsl _ _ _ cap b1 base1 sz g hcap hz =>
            rw [g1] at g; injection g with g; injection g with q1 q2; injection q2 with q2 q3; subst q1; subst q2; subst q3
            split at he
            · -- no third index
              cases u with
              | some _ => exact hc.elim
              | none =>
                have hr := run_sliceBounds (P := P) (isS := true) (len := len) (cap := cap) (m := cap) (c := none) (z := none) ha hb trivial rfl h2 h1 (Nat.le_refl _) (by omega) hle.1 (fun q => absurd rfl q)
                have rr := run _ len cap lo hi cap rfl hr
                split at he
                · rename_i hlo
                  injection he with he; subst he
                  refine .same H rr ?_
                  rw [show hi - lo = 0 by omega]
                  split <;> exact .sl0 _ _
                · rename_i hlo
                  injection he with he; subst he
                  refine .same H rr ?_
                  have e : (if cap = lo then some (⟨b0, base + off * i.size, none⟩ : Addr) else (some (⟨b0, base + off * i.size, none⟩ : Addr)).map (·.add (lo * i.size))) = some ⟨b0, base + (off + lo) * i.size, none⟩ := by
                    split
                    · have : lo = 0 := by omega
                      subst this; rfl
                    · simp only [Option.map_some, addr_add, Nat.add_mul, Nat.add_assoc]
                  rw [e]
                  refine .hsl g1 (by omega) ?_
                  rw [show off + lo + (cap - lo) = off + cap by omega]
                  exact hz
            · rename_i k m
              split at he
              · rename_i hh
                injection he with he; subst he
                obtain ⟨hbs, rfl, rfl⟩ := hh
                have h3 : bndV (some (.int k ((lo : Nat) : Int))) cap = some lo := by simp [bndV]
                have hr := run_sliceBounds (P := P) (isS := true) (len := len) (cap := cap) ha hb hc h3 h2 h1 (by omega) (Nat.le_refl _) (Nat.le_refl _) (fun _ q => by rw [q] at hbs; cases hbs)
                refine .same H (run _ len cap lo lo lo rfl hr) ?_
                rw [if_pos rfl, Nat.sub_self]
                exact .esl _
              · cases he
            · cases he
          | hslD _ g => rw [hp] at g; cases g
        · cases he
      · cases he
    · cases he
  · rename_i es
    split at he
    · rename_i lo hi h1 h2
      split at he
      · rename_i hle
        have key : ∃ ad cap, x = .slice (some ad) es.length cap ∧ es.length ≤ cap ∧ ∀ m, m ≤ cap → (m = lo → lo = hi) → Rep L w (.sl ((es.drop lo).take (hi - lo))) (.slice (if m = lo then some ad else (some ad).map (·.add (lo * i.size))) (hi - lo) (m - lo)) ∨ m < hi := by
          cases rep with
          | @sl _ sz b0 o cap f ho hbb hcap hs hcc hr =>
            refine ⟨⟨b0, o, none⟩, cap, rfl, hcap, fun m hm hml => ?_⟩
            rcases Nat.lt_or_ge m hi with q | q
            · exact .inr q
            · left
              have hlen : ((es.drop lo).take (hi - lo)).length = hi - lo := by simp <;> omega
              by_cases hz : hi - lo = 0
              · have e0 : (es.drop lo).take (hi - lo) = [] := by rw [hz]; rfl
                rw [e0, hz]
                split <;> exact .sl0 _ _
              · rw [if_neg (fun q => by have := hml q; omega)]
                simp only [Option.map_some, addr_add]
                have hlt : lo < es.length := by omega
                have hsz : sz = i.size := by
                  have g : es[lo]? = some es[lo] := by simp
                  rw [← (hs lo _ g).1, hel _ rfl lo _ g]
                subst hsz
                have hget : ∀ (k : Nat) (e : V), ((es.drop lo).take (hi - lo))[k]? = some e → es[lo + k]? = some e := by
                  intro k e hk
                  rw [List.getElem?_take] at hk
                  split at hk
                  · rw [List.getElem?_drop] at hk; exact hk
                  · cases hk
                have := Rep.sl (L := L) (w := w) (es := (es.drop lo).take (hi - lo)) (sz := i.size) (b := b0) (o := o + lo * i.size) (cap := m - lo) (fun a j => f (lo + a) j) ho hbb (by rw [hlen]; omega) (fun k e hk => hs _ e (hget k e hk))
                  (fun a j e c h1 h2 => by
                    have := hcc _ j e c (hget a e h1) h2
                    rw [Nat.add_mul] at this
                    rw [show o + lo * i.size + a * i.size + j = o + (lo * i.size + a * i.size) + j by omega]; exact this)
                  (fun a j e c h1 h2 => hr _ j e c (hget a e h1) h2)
                rwa [hlen] at this
          | sl0 a cap =>
            refine ⟨a, cap, rfl, Nat.zero_le _, fun m hm hml => .inl ?_⟩
            have hz : hi = 0 := by have := hle.2; simpa using this
            have hz' : lo = 0 := by omega
            subst hz; subst hz'
            simp only [List.drop_nil, List.take_nil]
            split <;> exact .sl0 _ _
        obtain ⟨ad, cap, rfl, hcap, hk⟩ := key
        split at he
        · cases u with
          | some _ => exact hc.elim
          | none =>
            injection he with he; subst he
            have hr := run_sliceBounds (P := P) (isS := true) (len := es.length) (cap := cap) (m := cap) (c := none) (z := none) ha hb trivial rfl h2 h1 (Nat.le_refl _) (by omega) hle.1 (fun q => absurd rfl q)
            refine .same H (run _ _ cap lo hi cap rfl hr) ?_
            rcases hk cap (Nat.le_refl _) (fun q => by omega) with q | q
            · exact q
            · omega
        · rename_i k m
          split at he
          · rename_i hh
            injection he with he; subst he
            obtain ⟨hbs, rfl, rfl⟩ := hh
            have h3 : bndV (some (.int k ((lo : Nat) : Int))) cap = some lo := by simp [bndV]
            have hr := run_sliceBounds (P := P) (isS := true) (len := es.length) (cap := cap) ha hb hc h3 h2 h1 (by omega) (Nat.le_refl _) (Nat.le_refl _) (fun _ q => by rw [q] at hbs; cases hbs)
            refine .same H (run _ _ cap lo lo lo rfl hr) ?_
            rw [if_pos rfl, Nat.sub_self]
            exact .esl _
          · cases he
        · cases he
      · cases he
    · cases he
  · cases he

/-- A slice of an array's variable (n elements). -/
def evSlcA (h : List Ob) (n sz : Nat) (v : V) (a b : Option V) : Option V :=
  match v with
  | .ptr id i j => match h[id]? with
    | some (.row es s) => match bndV a 0, bndV b n with
      | some lo, some hi => if s = sz ∧ j = 0 ∧ i + n ≤ es.length ∧ 0 < n ∧ lo ≤ hi ∧ hi ≤ n then
          (if lo = hi ∧ 0 < lo then some (.sl []) else some (.hsl id (i + lo) (hi - lo))) else none
      | _, _ => none
    | _ => none
  | _ => none

theorem row_fits {L : Loc} {h : List Ob} {w : World} (H : HRel L h w) {id b base sz : Nat} {es : List V} (hob : h[id]? = some (.row es sz)) (hat : L.at_ id = some (b, base, sz)) {n : Nat} (hn : n ≤ es.length) (h0 : 0 < n) (hs : 0 < sz) :
    base + n * sz ≤ bsz w b := by
  obtain ⟨b0, base0, c, e, fr, h1, h2, h3, h4, h5⟩ := H.obs id _ hob
  rw [hat] at h1; injection h1 with h1; injection h1 with q1 q2; injection q2 with q2 q3; subst q1; subst q2
  have hy : es[n - 1]? = some es[n - 1] := by simp <;> omega
  have hl := (h4 _ _ hy).1
  have hz : (es[n - 1]).cells[sz - 1]? = some (es[n - 1]).cells[sz - 1] := by simp <;> omega
  obtain ⟨v, g1, _⟩ := h5 _ _ _ _ hy hz
  have := (Array.getElem?_eq_some_iff.1 g1).1
  rw [bsz_row h2]
  have e : n * sz = (n - 1) * sz + sz := by rw [← Nat.succ_mul]; congr 1; omega
  omega

theorem slcA_good {P : Program} {L : Loc} {h : List Ob} {w : World} (H : HRel L h w) {t e : TypeId} {n : Nat} {i : TypeInfo} {v : V} {x : Value} {a b : Option V} {y z : Option Value} {r : V} (hu : P.underlying t = some (.array n e)) (hinf : P.info? e = some i) (hs : 0 < i.size)
    (rep : Rep L w v x) (ha : BRep L w a y) (hb : BRep L w b z) (he : evSlcA h n i.size v a b = some r) : Good P L w (Instr.sliceAt t x y z none) r h := by
  unfold evSlcA at he
  split at he
  · rename_i id k j
    split at he
    · rename_i es s hob
      obtain ⟨b0, base, c, ee, fr, h1, h2, h3, h4, h5⟩ := H.obs id _ hob
      have hx : x = .pointer (some ⟨b0, base + k * s + j, none⟩) := by
        cases rep with
        | ptr g => rw [h1] at g; injection g with g; injection g with g1 g2; injection g2 with g2 g3; subst g1; subst g2; subst g3; rfl
        | ptrD _ g => rw [h1] at g; cases g
      split at he
      · rename_i lo hi g1 g2
        split at he
        · rename_i hh
          obtain ⟨rfl, rfl, hin, h0, hle, hhn⟩ := hh
          have hr := run_sliceBounds (P := P) (isS := false) (len := n) (cap := n) (m := n) (c := none) (z := none) ha hb trivial rfl g2 g1 (Nat.le_refl _) hhn hle (fun q => absurd rfl q)
          have run : (Instr.sliceAt t x y z none).run P w = .ok (.slice (some (if n = lo then ⟨b0, base + k * i.size, none⟩ else ⟨b0, base + k * i.size + lo * i.size, none⟩)) (hi - lo) (n - lo)) w := by
            subst hx
            simp only [Instr.sliceAt, Sem.run_bind, run_underlying hu, Result.andThen_ok, Instr.sureAddr, Sem.run_pure, hr, run_sizeOf w hinf, Nat.add_zero, addr_add]
          split at he
          · injection he with he; subst he
            refine .same H run ?_
            rw [show hi - lo = 0 by omega]
            exact .sl0 _ _
          · rename_i hlo
            injection he with he; subst he
            refine .same H run ?_
            have e : (if n = lo then (⟨b0, base + k * i.size, none⟩ : Addr) else ⟨b0, base + k * i.size + lo * i.size, none⟩) = ⟨b0, base + (k + lo) * i.size, none⟩ := by
              split
              · have : lo = 0 := by omega
                subst this; rfl
              · rw [Nat.add_mul, Nat.add_assoc]
            rw [e]
            refine .hsl h1 (by omega) ?_
            have := row_fits H hob h1 hin (by omega) hs
            rw [show k + lo + (n - lo) = k + n by omega]
            exact this
        · cases he
      · cases he
    · cases he
  · cases he

end Go.Proofs.Ytdcdmpgigmhhpaa.E
