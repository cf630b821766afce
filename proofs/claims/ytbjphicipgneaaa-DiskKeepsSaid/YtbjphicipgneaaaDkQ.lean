/- Disks: reading; what is touched; a part of a disk put anew. No condition. -/
import Derived.Test.YtbjphicipgneaaaDkP
namespace Go.Proofs.Ytbjphicipgneaaa.Dk
open Go Go.Proofs.Ytbjphicipgneaaa.E
set_option maxRecDepth 100000
set_option linter.unusedVariables false
set_option linter.unusedSimpArgs false

theorem idsOf_nodup (v : V) : (idsOf v).Nodup := by
  cases v <;> simp [idsOf]
theorem idsM_nodup (v : V) : (idsM v).Nodup := by
  cases v <;> simp [idsM]
theorem nod_swap {P A R A' : List Nat} {n : Nat} (h : (P ++ (A ++ R)).Nodup) (ha : A'.Nodup) (hs : ∀ j, j ∈ A' → j ∈ A ∨ n ≤ j) (hl : ∀ j, j ∈ P ++ (A ++ R) → j < n) : (P ++ (A' ++ R)).Nodup := by
  simp only [List.nodup_append, List.mem_append] at h hl ⊢
  obtain ⟨h1, ⟨h2, h3, h4⟩, h5⟩ := h
  refine ⟨h1, ⟨ha, h3, fun a hA b hB q => ?_⟩, fun a hA b hB q => ?_⟩
  · subst q
    rcases hs a hA with z | z
    · exact h4 a z a hB rfl
    · have := hl a (.inr (.inr hB)); omega
  · subst q
    rcases hB with hB | hB
    · rcases hs a hB with z | z
      · exact h5 a hA a (.inl z) rfl
      · have := hl a (.inl hA); omega
    · exact h5 a hA a (.inr hB) rfl
theorem Dk.off {h : List Ob} {id : Nat} {w : DV} {c : DC} (d : Dk h id w c) : ∀ j, j ∈ foot id w → j < h.length := fun j hj => d.lt hj

/-- The touched sectors. -/
def tch : Nat → Int → Int → List Int → List Int
  | 0, _, _, ks => ks
  | n + 1, s, e, ks => if s * 64 < e then tch n (s + 1) e (addKey ks s) else ks
theorem touchL (lf : Nat) {id j : Nat} {cs : List V} {t b : V} {at_ : Int} {ms : List Int} (ht : cs[j + 2]? = some t) (hn : t ≠ .nilm) (hid : id ∉ idsM t) (hb : ∀ i, i ∈ idsOf b → i ∉ idsM t) (ha : 0 ≤ at_ ∧ at_ ≤ 1000000) (hl : ms.length ≤ 1000000) :
    ∀ (n f : Nat) (s : Int) (ks : List Int) (h : List Ob), 0 ≤ s → s ≤ 1000000 → n ≤ 4000000 → at_ + ms.length ≤ (s + n) * 64 → n < f → St h id cs → Mp h t ks → Sl 1 h b (bv ms) →
      To3 (L13_0 lf f at_ b (.ptr id 0 j) s h) fun x vs h' => x = .exit 1 ∧ vs = [] ∧ Mp h' t (tch n s (at_ + ms.length) ks) ∧ Kp h h' (idsM t) := by
  intro n
  induction n with
  | zero =>
    intro f s ks h h0 h1 hn4 he hf st m sb
    obtain ⟨f, rfl⟩ : ∃ g, f = g + 1 := ⟨f - 1, by omega⟩
    have w1 : IntKind.i64.wrap (s * 64) = s * 64 := wrap_i64 (by omega) (by omega)
    have w2 : IntKind.i64.wrap (at_ + (ms.length : Int)) = at_ + ms.length := wrap_i64 (by omega) (by omega)
    have hd : decide (s * 64 < at_ + (ms.length : Int)) = false := decide_eq_false (by omega)
    simp only [L13_0, B13_0, er_lenL sb, bv_length, bind1_some, castInt_int, w1, w2, hd, cB_false]
    exact To3.some ⟨rfl, rfl, m, Kp.refl _ _⟩
  | succ n ih =>
    intro f s ks h h0 h1 hn4 he hf st m sb
    obtain ⟨f, rfl⟩ : ∃ g, f = g + 1 := ⟨f - 1, by omega⟩
    have w1 : IntKind.i64.wrap (s * 64) = s * 64 := wrap_i64 (by omega) (by omega)
    have w2 : IntKind.i64.wrap (at_ + (ms.length : Int)) = at_ + ms.length := wrap_i64 (by omega) (by omega)
    have w3 : IntKind.i64.wrap (s + 1) = s + 1 := wrap_i64 (by omega) (by omega)
    have nk := st.nilck 0 j
    have fa := st.faddr 2 0 j
    have l : er (.load1 (.c (.ptr id 0 (j + 2)))) h = some t := st.load1 ht
    by_cases c : s * 64 < at_ + (ms.length : Int)
    · have hd : decide (s * 64 < at_ + (ms.length : Int)) = true := decide_eq_true c
      simp only [L13_0, B13_0, er_lenL sb, bv_length, bind1_some, castInt_int, w1, w2, w3, hd, cB_true, nk, fa, l]
      refine To3.bind2 (mapupd_to m hn) ?_
      rintro u h2 ⟨m2, k2⟩
      refine (ih f (s + 1) (addKey ks s) h2 (by omega) (by omega) (by omega) (by omega) (by omega) (st.keep k2 hid) m2 (sb.keep k2 hb)).mono ?_
      rintro x vs h' ⟨rfl, rfl, m3, k3⟩
      refine ⟨rfl, rfl, ?_, k2.trans k3 (fun j hj _ => hj) (fun j hj _ => hj)⟩
      simp only [tch, if_pos c]; exact m3
    · have hd : decide (s * 64 < at_ + (ms.length : Int)) = false := decide_eq_false c
      simp only [L13_0, B13_0, er_lenL sb, bv_length, bind1_some, castInt_int, w1, w2, hd, cB_false]
      refine To3.some ⟨rfl, rfl, ?_, Kp.refl _ _⟩
      simp only [tch, if_neg c]; exact m
end Go.Proofs.Ytbjphicipgneaaa.Dk
