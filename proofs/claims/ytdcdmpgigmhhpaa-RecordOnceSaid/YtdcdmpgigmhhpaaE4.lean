/- The layer E, part 4: operations that leave memory as it is, or read it. No condition. -/
import Derived.Test.YtdcdmpgigmhhpaaE3
namespace Go.Proofs.Ytdcdmpgigmhhpaa.E
set_option linter.unusedSimpArgs false
set_option linter.unusedVariables false

/-! ### '==' -/
def EqT.fits (P : Program) (t : TypeId) : EqT → Prop
  | .bool => P.underlying t = some .bool
  | .ptr => ∃ e, P.underlying t = some (.pointer e)
  | .slice => ∃ e, P.underlying t = some (.slice e)
  | .map => ∃ k e, P.underlying t = some (.map k e)
  | .func => ∃ a b c, P.underlying t = some (.func a b c)
  | .struct n ls => leavesOf P 8 t = some ls ∧ P.eqGuardType P.depth t = false ∧ isStruct P t = true ∧ P.cellsOf t = n

theorem isNil_spec {L : Loc} {h : List Ob} {w : World} (H : HRel L h w) {T : EqT} {v : V} {x : Value} {b : Bool} (r : Rep L w v x) (he : isNil h T v = some b) :
    (T = .ptr ∧ ∃ p, x = .pointer p ∧ p.isNone = b) ∨ (T = .slice ∧ ∃ p n c, x = .slice p n c ∧ p.isNone = b ∧ (b = true → n = 0 ∧ c = 0)) ∨ (T = .map ∧ ∃ p, x = .map p ∧ p.isNone = b) ∨
    (T = .func ∧ ((b = true ∧ x = .nilFunc) ∨ (b = false ∧ ∃ f c d, x = .func f c d))) := by
  unfold isNil at he
  split at he
  · injection he with he; subst he; cases r; exact .inl ⟨rfl, _, rfl, rfl⟩
  · split at he
    · rename_i ha
      injection he with he; subst he
      obtain ⟨p, hp⟩ := alive_at H ha
      cases r with
      | ptr _ => exact .inl ⟨rfl, _, rfl, rfl⟩
      | ptrD _ h => rw [hp] at h; cases h
    · cases he
  · injection he with he; subst he; cases r; exact .inl ⟨rfl, _, rfl, rfl⟩
  · injection he with he; subst he; cases r; exact .inr (.inl ⟨rfl, _, _, _, rfl, rfl, fun _ => ⟨rfl, rfl⟩⟩)
  · split at he
    · rename_i ha
      injection he with he; subst he
      obtain ⟨p, hp⟩ := alive_at H ha
      cases r with
      | hsl _ => exact .inr (.inl ⟨rfl, _, _, _, rfl, rfl, fun h => by cases h⟩)
      | hslD _ h => rw [hp] at h; cases h
    · cases he
  · injection he with he; subst he
    cases r <;> exact .inr (.inl ⟨rfl, _, _, _, rfl, rfl, fun h => by cases h⟩)
  · injection he with he; subst he
    cases r; exact .inr (.inl ⟨rfl, _, _, _, rfl, rfl, fun h => by cases h⟩)
  · injection he with he; subst he; cases r; exact .inr (.inr (.inl ⟨rfl, _, rfl, rfl⟩))
  · split at he
    · rename_i ha
      injection he with he; subst he
      obtain ⟨p, hp⟩ := alive_at H ha
      cases r with
      | mp _ => exact .inr (.inr (.inl ⟨rfl, _, rfl, rfl⟩))
      | mpD _ h => rw [hp] at h; cases h
    · cases he
  · injection he with he; subst he; cases r; exact .inr (.inr (.inr ⟨rfl, .inl ⟨rfl, rfl⟩⟩))
  · injection he with he; subst he; cases r; exact .inr (.inr (.inr ⟨rfl, .inr ⟨rfl, _, _, _, rfl⟩⟩))
  · cases he

theorem eqIn_ptr {P : Program} (w : World) (d : Nat) {t e : TypeId} (hu : P.underlying t = some (.pointer e)) (m m' : Option Addr) (h : m = none ∨ m' = none) :
    (Op.equalIn (d + 1) t (.pointer m) (.pointer m')).run P w = .ok (m.isNone && m'.isNone) w := by
  rcases h with rfl | rfl
  · cases m' <;> simp [Op.equalIn, run_underlying hu]
  · cases m <;> simp [Op.equalIn, run_underlying hu]
theorem eqIn_slice {P : Program} (w : World) (d : Nat) {t e : TypeId} (hu : P.underlying t = some (.slice e)) (m m' : Option Addr) (n c n' c' : Nat) (h : m = none ∨ m' = none) :
    (Op.equalIn (d + 1) t (.slice m n c) (.slice m' n' c')).run P w = .ok (m.isNone && m'.isNone) w := by
  rcases h with rfl | rfl
  · cases m' <;> simp [Op.equalIn, run_underlying hu]
  · cases m <;> simp [Op.equalIn, run_underlying hu]
theorem eqIn_map {P : Program} (w : World) (d : Nat) {t k e : TypeId} (hu : P.underlying t = some (.map k e)) (m m' : Option Nat) (h : m = none ∨ m' = none) :
    (Op.equalIn (d + 1) t (.map m) (.map m')).run P w = .ok (m.isNone && m'.isNone) w := by
  rcases h with rfl | rfl
  · cases m' <;> simp [Op.equalIn, run_underlying hu]
  · cases m <;> simp [Op.equalIn, run_underlying hu]
theorem eqIn_func {P : Program} (w : World) (d : Nat) {t : TypeId} {k1 k2 : Array TypeId} {k3 : Bool} (hu : P.underlying t = some (.func k1 k2 k3)) (f f' : Fn) (c e c' e' : Array Value) :
    (Op.equalIn (d + 1) t .nilFunc .nilFunc).run P w = .ok true w ∧ (Op.equalIn (d + 1) t .nilFunc (.func f c e)).run P w = .ok false w ∧ (Op.equalIn (d + 1) t (.func f c e) .nilFunc).run P w = .ok false w :=
  ⟨by simp [Op.equalIn, run_underlying hu], by simp [Op.equalIn, run_underlying hu], by simp [Op.equalIn, run_underlying hu]⟩

/-- What the two ways of asking come to. -/
theorem nil_two {p q r : Bool} (h : (match some p, some q with | some true, some b => some b | some b, some true => some b | _, _ => none) = some r) : (p = true ∨ q = true) ∧ r = (p && q) := by
  cases p <;> cases q <;> simp at h <;> subst h <;> simp

theorem evEq_run {P : Program} {L : Loc} {h : List Ob} {w : World} (H : HRel L h w) {t : TypeId} {T : EqT} (hT : T.fits P t) {x y : V} {a b : Value} {r : Bool} (ha : Rep L w x a) (hb : Rep L w y b)
    (he : evEq h T x y = some r) : (Op.equal t a b).run P w = .ok r w ∧ (∀ op x y, (eqGuard op t x y a b).run P w = .ok () w) ∧
      (∀ op, op = .eql ∨ op = .neq → binOp op t a b = (if op = .eql then (do pure (.bool (← Op.equal t a b))) else (do pure (.bool (!(← Op.equal t a b)))))) := by
  have nilcase : ∀ {T : EqT}, T.fits P t → (match isNil h T x, isNil h T y with | some true, some b => some b | some b, some true => some b | _, _ => none) = some r →
      (Op.equal t a b).run P w = .ok r w ∧ (∀ op x y, (eqGuard op t x y a b).run P w = .ok () w) ∧
      (∀ op, op = .eql ∨ op = .neq → binOp op t a b = (if op = .eql then (do pure (.bool (← Op.equal t a b))) else (do pure (.bool (!(← Op.equal t a b)))))) := by
    intro T hT he
    cases h1 : isNil h T x with
    | none => rw [h1] at he; simp at he
    | some p =>
      cases h2 : isNil h T y with
      | none => rw [h1, h2] at he; cases p <;> simp at he
      | some q =>
        rw [h1, h2] at he
        obtain ⟨hpq, rfl⟩ := nil_two he
        have s1 := isNil_spec H ha h1
        have s2 := isNil_spec H hb h2
        rcases s1 with ⟨rfl, m, rfl, rfl⟩ | ⟨rfl, m, n, c, rfl, rfl, hmz⟩ | ⟨rfl, m, rfl, rfl⟩ | ⟨rfl, hm⟩
        · rcases s2 with ⟨_, m', rfl, rfl⟩ | ⟨hh, _⟩ | ⟨hh, _⟩ | ⟨hh, _⟩ <;> first | cases hh | skip
          obtain ⟨e, hu⟩ := hT
          exact ⟨eqIn_ptr w 9999 hu m m' (by simpa using hpq), fun op x y => run_eqGuard_plain w op t x y _ _ (by simp) (by simp), fun op ho => by rcases ho with rfl | rfl <;> rfl⟩
        · rcases s2 with ⟨hh, _⟩ | ⟨_, m', n', c', rfl, rfl, hmz'⟩ | ⟨hh, _⟩ | ⟨hh, _⟩ <;> first | cases hh | skip
          obtain ⟨e, hu⟩ := hT
          exact ⟨eqIn_slice w 9999 hu m m' n c n' c' (by simpa using hpq), fun op x y => run_eqGuard_plain w op t x y _ _ (by simp) (by simp), fun op ho => by rcases ho with rfl | rfl <;> rfl⟩
        · rcases s2 with ⟨hh, _⟩ | ⟨hh, _⟩ | ⟨_, m', rfl, rfl⟩ | ⟨hh, _⟩ <;> first | cases hh | skip
          obtain ⟨k, e, hu⟩ := hT
          exact ⟨eqIn_map w 9999 hu m m' (by simpa using hpq), fun op x y => run_eqGuard_plain w op t x y _ _ (by simp) (by simp), fun op ho => by rcases ho with rfl | rfl <;> rfl⟩
        · rcases s2 with ⟨hh, _⟩ | ⟨hh, _⟩ | ⟨hh, _⟩ | ⟨_, hm'⟩ <;> first | cases hh | skip
          obtain ⟨k1, k2, k3, hu⟩ := hT
          refine ⟨?_, fun op x y => run_eqGuard_plain w op t x y _ _ ?_ ?_, fun op ho => ?_⟩
          · rcases hm with ⟨rfl, rfl⟩ | ⟨rfl, f, c, d, rfl⟩ <;> rcases hm' with ⟨rfl, rfl⟩ | ⟨rfl, f', c', d', rfl⟩
            · exact (eqIn_func w 9999 hu default default #[] #[] #[] #[]).1
            · exact (eqIn_func w 9999 hu f' default c' d' #[] #[]).2.1
            · exact (eqIn_func w 9999 hu f default c d #[] #[]).2.2
            · simp at hpq
          · rcases hm with ⟨rfl, rfl⟩ | ⟨rfl, f, c, d, rfl⟩ <;> simp
          · rcases hm with ⟨rfl, rfl⟩ | ⟨rfl, f, c, d, rfl⟩ <;> simp
          · rcases hm with ⟨rfl, rfl⟩ | ⟨rfl, f, c, d, rfl⟩ <;> rcases hm' with ⟨rfl, rfl⟩ | ⟨rfl, f', c', d', rfl⟩ <;> rcases ho with rfl | rfl <;> rfl
  unfold evEq at he
  split at he
  · injection he with he; subst he
    cases ha; cases hb
    refine ⟨run_equalIn_bool w 9999 t _ _ hT, fun op x y => run_eqGuard_plain w op t x y _ _ (by simp) (by simp), fun op ho => by rcases ho with rfl | rfl <;> rfl⟩
  · rename_i n ls cs ds
    split at he
    · rename_i hn
      obtain ⟨hl, hg, hs, hc⟩ := hT
      cases ha with
      | agg xs h1 h2 => cases hb with
        | agg ys h3 h4 =>
          refine ⟨?_, fun op x y => run_eqGuard_agg w op t x y xs ys hg, fun op ho => by rcases ho with rfl | rfl <;> rfl⟩
          have := run_equalIn_leaves (P := P) (w := w) 8 t 9992 ls cs ds (.agg xs) (.agg ys) r hl (.inl ⟨hs, by rw [hn.1, hc], xs, rfl, h1, h2⟩) (.inl ⟨hs, by rw [hn.2, hc], ys, rfl, h3, h4⟩) he
          exact this
    · cases he
  · cases he
  · cases he
  · exact nilcase hT he

end Go.Proofs.Ytdcdmpgigmhhpaa.E
