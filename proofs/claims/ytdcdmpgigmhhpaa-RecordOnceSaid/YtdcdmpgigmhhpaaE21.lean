/- The layer E, part 21: a region whose order is drawn: all its orders. No condition. -/
import Derived.Test.YtdcdmpgigmhhpaaE20
namespace Go.Proofs.Ytdcdmpgigmhhpaa.E
set_option linter.unusedSimpArgs false
set_option linter.unusedVariables false

def preOf (ops : Array Oper) (i : Nat) : List Nat := match ops[i]? with
  | some o => (o.after.toList.filter (fun e => Region.binds .any e)).map (·.on)
  | none => []

def chk (ops : Array Oper) (cs : Nat → EG) (re pc : Nat → List Nat) : List Nat → List Nat → Bool
  | _, [] => true
  | seen, i :: rest => !seen.contains i && (decide (i < ops.size) && ((preOf ops i).all (seen.contains ·) && ((pc i).all (fun j => seen.contains j && (preOf ops i).any (fun p => p == j || (pc p).contains j)) &&
      (((cs i).act.kind == 2 || (re i).isEmpty) && ((re i).all (seen.contains ·) && (seen.all (fun a => (pc i).contains a || okPair cs re pc a i) && chk ops cs re pc (i :: seen) rest))))))

structure Vd1 (ops : Array Oper) (cs : Nat → EG) (re pc : Nat → List Nat) (before : Nat → Prop) (i : Nat) : Prop where
  lt : i < ops.size
  pre : ∀ p, p ∈ preOf ops i → before p
  pcs : ∀ j, j ∈ pc i → before j ∧ ∃ p, p ∈ preOf ops i ∧ (p = j ∨ j ∈ pc p)
  quiet : (cs i).act.kind < 2 → re i = []
  res : ∀ r, r ∈ re i → before r

theorem chk_spec {ops : Array Oper} {cs : Nat → EG} {re pc : Nat → List Nat} : ∀ (C seen : List Nat), chk ops cs re pc seen C = true →
    ∀ A i B, C = A ++ i :: B → (i ∉ A ∧ i ∉ seen) ∧ Vd1 ops cs re pc (fun j => j ∈ A ∨ j ∈ seen) i ∧ ∀ a, (a ∈ A ∨ a ∈ seen) → a ∈ pc i ∨ okPair cs re pc a i = true
  | [], seen, h, A, i, B, e => by cases A <;> simp at e
  | c :: C, seen, h, A, i, B, e => by
    simp only [chk, Bool.and_eq_true, decide_eq_true_eq, Bool.not_eq_true', List.all_eq_true, Bool.or_eq_true, List.contains_eq_mem, decide_eq_false_iff_not, List.any_eq_true, beq_iff_eq, List.isEmpty_iff] at h
    obtain ⟨h1, h2, h3, h4, h5, h6, h7, h8⟩ := h
    cases A with
    | nil =>
      simp only [List.nil_append, List.cons.injEq] at e
      obtain ⟨rfl, rfl⟩ := e
      refine ⟨⟨by simp, h1⟩, ⟨h2, fun p hp => .inr (h3 p hp), fun j hj => ⟨.inr (h4 j hj).1, ?_⟩, fun hk => ?_, fun r hr => .inr (h6 r hr)⟩, fun a ha => ?_⟩
      · exact (h4 j hj).2
      · rcases h5 with q | q
        · omega
        · exact q
      · rcases ha with q | q
        · simp at q
        · exact h7 a q
    | cons a A =>
      simp only [List.cons_append, List.cons.injEq] at e
      obtain ⟨rfl, rfl⟩ := e
      obtain ⟨g1, g2, g3⟩ := chk_spec _ (c :: seen) h8 A i B rfl
      have key : ∀ j, (j ∈ A ∨ j ∈ c :: seen) → (j ∈ c :: A ∨ j ∈ seen) := by
        intro j hj
        simp only [List.mem_cons] at hj ⊢
        rcases hj with q | q | q
        · exact .inl (.inr q)
        · exact .inl (.inl q)
        · exact .inr q
      have key' : ∀ j, (j ∈ c :: A ∨ j ∈ seen) → (j ∈ A ∨ j ∈ c :: seen) := by
        intro j hj
        simp only [List.mem_cons] at hj ⊢
        rcases hj with (q | q) | q
        · exact .inr (.inl q)
        · exact .inl q
        · exact .inr (.inr q)
      refine ⟨⟨fun q => ?_, fun q => g1.2 (by simp [q])⟩, ⟨g2.lt, fun p hp => key _ (g2.pre p hp), fun j hj => ⟨key _ (g2.pcs j hj).1, (g2.pcs j hj).2⟩, g2.quiet, fun r hr => key _ (g2.res r hr)⟩, fun a ha => g3 a (key' a ha)⟩
      rcases List.mem_cons.1 q with q | q
      · exact g1.2 (by simp [q])
      · exact g1.1 q

def goR (m : Region.Mode) (ops : Array Oper) : Nat → Nat → Array Bool → List Nat
  | 0, _, _ => []
  | fuel + 1, t, listed =>
    let rs := (List.range ops.size).filter fun i =>
      !listed.getD i true && ((ops[i]?).map (·.after.all fun e => !Region.binds m e || listed.getD e.on false)).getD false
    match rs[t % rs.length]? with
    | some i => i :: goR m ops fuel (t / rs.length) (listed.setIfInBounds i true)
    | none => []

theorem go_eq (m : Region.Mode) (ops : Array Oper) : ∀ (fuel t : Nat) (listed : Array Bool) (acc : List Nat), Region.linearise.go m ops fuel t listed acc = acc.reverse ++ goR m ops fuel t listed
  | 0, t, listed, acc => by simp [Region.linearise.go, goR]
  | fuel + 1, t, listed, acc => by
    simp only [Region.linearise.go, goR]
    generalize (List.filter _ (List.range ops.size)) = rs
    cases rs[t % rs.length]? with
    | none => simp
    | some i =>
      simp only
      rw [go_eq m ops fuel]
      simp

theorem append_split {α : Type} {A B A2 B2 : List α} {j : α} (e : A ++ B = A2 ++ j :: B2) : (∃ X, A = A2 ++ j :: X ∧ B2 = X ++ B) ∨ (∃ X, B = X ++ j :: B2 ∧ A2 = A ++ X) := by
  rcases List.append_eq_append_iff.1 e with ⟨X, h1, h2⟩ | ⟨X, h1, h2⟩
  · exact .inr ⟨X, h2, h1⟩
  · cases X with
    | nil => simp at h1 h2; exact .inr ⟨[], by simp [h2], by simp [h1]⟩
    | cons x X =>
      simp only [List.cons_append, List.cons.injEq] at h2
      obtain ⟨rfl, rfl⟩ := h2
      exact .inl ⟨X, h1, rfl⟩

section
variable {P : Program} {Q : Post} {ops : Array Oper} {cs : Nat → EG} {re pc : Nat → List Nat}

def Vd (ops : Array Oper) (cs : Nat → EG) (re pc : Nat → List Nat) (listed : Nat → Prop) (C : List Nat) : Prop :=
  ∀ A i B, C = A ++ i :: B → i ∉ A ∧ Vd1 ops cs re pc (fun j => j ∈ A ∨ listed j) i ∧ ∀ a, a ∈ A → a ∈ pc i ∨ okPair cs re pc a i = true

theorem nodup_of {α : Type} : ∀ {C : List α}, (∀ A i B, C = A ++ i :: B → i ∉ A) → C.Nodup
  | [], _ => List.nodup_nil
  | c :: C, h => List.nodup_cons.2 ⟨fun q => by
      obtain ⟨X, Y, e⟩ := List.append_of_mem q
      exact h (c :: X) c Y (by rw [e]; rfl) (by simp), nodup_of fun A i B e => fun q => h (c :: A) i B (by rw [e]; rfl) (by simp [q])⟩

/-- With one taken out. -/
theorem Vd.out {listed listed' : Nat → Prop} {A B : List Nat} {i : Nat} (v : Vd ops cs re pc listed (A ++ i :: B)) (hl : ∀ j, listed j → listed' j) (hi : listed' i) : Vd ops cs re pc listed' (A ++ B) := by
  intro A2 j B2 e
  have mk : ∀ A3 B3, A ++ i :: B = A3 ++ j :: B3 → (∀ x, x ∈ A3 → x = i ∨ x ∈ A2) → (∀ x, x ∈ A2 → x ∈ A3) → j ∉ A2 ∧ Vd1 ops cs re pc (fun k => k ∈ A2 ∨ listed' k) j ∧ ∀ a, a ∈ A2 → a ∈ pc j ∨ okPair cs re pc a j = true := by
    intro A3 B3 e3 h1 h2
    obtain ⟨g1, g2, g3⟩ := v A3 j B3 e3
    have key : ∀ x, (x ∈ A3 ∨ listed x) → (x ∈ A2 ∨ listed' x) := by
      rintro x (q | q)
      · rcases h1 x q with rfl | z
        · exact .inr hi
        · exact .inl z
      · exact .inr (hl x q)
    exact ⟨fun q => g1 (h2 j q), ⟨g2.lt, fun p hp => key p (g2.pre p hp), fun k hk => ⟨key k (g2.pcs k hk).1, (g2.pcs k hk).2⟩, g2.quiet, fun r hr => key r (g2.res r hr)⟩, fun a ha => g3 a (h2 a ha)⟩
  rcases append_split e with ⟨X, h1, h2⟩ | ⟨X, h1, h2⟩
  · subst h1 h2
    exact mk A2 (X ++ i :: B) (by simp) (fun x hx => .inr hx) (fun x hx => hx)
  · subst h1 h2
    exact mk (A ++ i :: X) B2 (by simp) (fun x hx => by simp at hx ⊢; rcases hx with q | q | q <;> simp [q]) (fun x hx => by simp at hx ⊢; rcases hx with q | q <;> simp [q])

theorem draw_main : ∀ (fuel tk : Nat) (listed : Array Bool) (C : List Nat) (t : Nat → V) (h : List Ob), C.length ≤ fuel → listed.size = ops.size →
    (∀ i, i ∈ C ↔ i < ops.size ∧ listed.getD i false = false) → (∀ i, listed.getD i false = true → ∀ j, j ∈ pc i → listed.getD j false = true) →
    Vd ops cs re pc (fun i => listed.getD i false = true) C → wpI P Q (C.map (annI cs re)) t h → wpI P Q ((goR .any ops fuel tk listed).map (annI cs fun _ => [])) t h := by
  intro fuel
  induction fuel with
  | zero =>
    intro tk listed C t h hf _ _ _ _ w
    cases C with
    | nil => exact w
    | cons c C => simp at hf
  | succ fuel ih =>
    intro tk listed C t h hf hsz hC hpc v w
    have hmem : ∀ i, i ∈ ((List.range ops.size).filter fun i =>
      !listed.getD i true && ((ops[i]?).map (·.after.all fun e => !Region.binds .any e || listed.getD e.on false)).getD false) ↔
        i ∈ C ∧ ∀ p, p ∈ preOf ops i → listed.getD p false = true := by
      intro i
      rw [List.mem_filter, List.mem_range, hC]
      constructor
      · rintro ⟨h1, h2⟩
        simp only [Bool.and_eq_true, Bool.not_eq_true'] at h2
        obtain ⟨h2, h3⟩ := h2
        refine ⟨⟨h1, ?_⟩, fun p hp => ?_⟩
        · rw [Array.getD_eq_getD_getElem?, Array.getElem?_eq_getElem (by omega)] at h2 ⊢
          exact h2
        · unfold preOf at hp
          rw [Array.getElem?_eq_getElem h1] at hp h3
          simp only [List.mem_map, List.mem_filter] at hp
          obtain ⟨e, ⟨e1, e2⟩, rfl⟩ := hp
          simp only [Option.map_some, Option.getD_some, Array.all_eq_true_iff_forall_mem, Bool.or_eq_true, Bool.not_eq_true'] at h3
          rcases h3 e (by simpa using e1) with q | q
          · rw [e2] at q; cases q
          · exact q
      · rintro ⟨⟨h1, h2⟩, h3⟩
        refine ⟨h1, ?_⟩
        simp only [Bool.and_eq_true, Bool.not_eq_true']
        refine ⟨?_, ?_⟩
        · rw [Array.getD_eq_getD_getElem?, Array.getElem?_eq_getElem (by omega)] at h2 ⊢
          exact h2
        · rw [Array.getElem?_eq_getElem h1]
          simp only [Option.map_some, Option.getD_some, Array.all_eq_true_iff_forall_mem, Bool.or_eq_true, Bool.not_eq_true']
          intro e he
          cases hb : Region.binds .any e with
          | false => exact .inl rfl
          | true =>
            refine .inr (h3 e.on ?_)
            unfold preOf
            rw [Array.getElem?_eq_getElem h1]
            simp only [List.mem_map, List.mem_filter]
            exact ⟨e, ⟨by simpa using he, hb⟩, rfl⟩
    simp only [goR]
    generalize hrs : ((List.range ops.size).filter fun i =>
      !listed.getD i true && ((ops[i]?).map (·.after.all fun e => !Region.binds .any e || listed.getD e.on false)).getD false) = rs at hmem ⊢
    cases hr : rs[tk % rs.length]? with
    | none =>
      simp only
      cases C with
      | nil => exact w
      | cons c C =>
        exfalso
        have hc : c ∈ rs := (hmem c).2 ⟨by simp, fun p hp => ((v [] c C rfl).2.1.pre p hp).elim (fun q => by simp at q) (fun q => q)⟩
        have hl : 0 < rs.length := List.length_pos_of_mem hc
        rw [List.getElem?_eq_getElem (Nat.mod_lt _ hl)] at hr
        cases hr
    | some i =>
      simp only
      have hi : i ∈ rs := List.mem_of_getElem? hr
      obtain ⟨hiC, hpre⟩ := (hmem i).1 hi
      obtain ⟨A, B, rfl⟩ := List.append_of_mem hiC
      have hnd := nodup_of fun A i B e => (v A i B e).1
      obtain ⟨g1, g2, g3⟩ := v A i B rfl
      have hil := (hC i).1 hiC
      have unl : ∀ a, a ∈ A → listed.getD a false = false := fun a ha => ((hC a).1 (by simp [ha])).2
      have hpci : ∀ j, j ∈ pc i → listed.getD j false = true := by
        intro j hj
        obtain ⟨p, hp, q⟩ := (g2.pcs j hj).2
        rcases q with rfl | q
        · exact hpre p hp
        · exact hpc p (hpre p hp) j q
      have hok : ∀ a, a ∈ A → okPair cs re pc a i = true := by
        intro a ha
        rcases g3 a ha with q | q
        · have := hpci a q; rw [unl a ha] at this; cases this
        · exact q
      have hA : A.Nodup := (List.nodup_append.1 hnd).1
      have st := move (P := P) (Q := Q) (cs := cs) (re := re) (i := i) g2.quiet A B t h (fun a ha => by
          obtain ⟨q1, q2, q3, q4, q5⟩ := okPair_spec (hok a ha)
          obtain ⟨X, Y, e⟩ := List.append_of_mem ha
          obtain ⟨_, u2, _⟩ := v X a (Y ++ i :: B) (by rw [e]; simp)
          exact ⟨q1, u2.quiet q1, q2, q3, q4⟩)
        (fun A1 b A2 e r hr hne hrA => by
          have hb : b ∈ A := by rw [e]; simp
          obtain ⟨q1, q2, q3, q4, q5⟩ := okPair_spec (hok b hb)
          rcases q5 r hr with q | q | q
          · exact absurd q hne
          · exfalso
            -- 'b' is ahead of 'r': so 'r' is not ahead of 'b', and is not listed
            rcases g2.res r hr with z | z
            · rw [e] at z
              have hrA1 : r ∈ A1 := by
                simp only [List.mem_append, List.mem_cons] at z
                rcases z with z | z | z
                · exact z
                · exact absurd z hne
                · exact absurd z hrA
              obtain ⟨X, Y, e'⟩ := List.append_of_mem hrA1
              obtain ⟨_, u2, _⟩ := v X r (Y ++ b :: A2 ++ i :: B) (by rw [e, e']; simp)
              rcases (u2.pcs b q).1 with y | y
              · rw [e, e'] at hA
                have : (X ++ r :: Y ++ b :: A2).Nodup := hA
                have := (List.nodup_append.1 this).2.2 b (by simp [y]) b (by simp)
                exact this rfl
              · rw [unl b hb] at y; cases y
            · have := hpc r z b q
              rw [unl b hb] at this; cases this
          · exact q) hA w
      simp only [List.map_cons]
      rw [wpI_cons]
      refine step_mono (fun _ _ => rfl) st (fun v' h' k => ?_)
      rw [andRe_iff]
      refine ⟨fun g hg => by simp [annI] at hg, ?_⟩
      have hget : ∀ j, (listed.setIfInBounds i true).getD j false = true ↔ j = i ∨ listed.getD j false = true := by
        intro j
        rw [Array.getD_eq_getD_getElem?, Array.getD_eq_getD_getElem?, Array.getElem?_setIfInBounds]
        split
        · rename_i q; subst q
          simp [hsz, hil.1]
        · rename_i q
          constructor
          · intro z; exact .inr z
          · rintro (z | z)
            · exact absurd z.symm q
            · exact z
      refine ih (tk / rs.length) (listed.setIfInBounds i true) (A ++ B) _ h' ?_ (by simpa using hsz) ?_ ?_ ?_ k.2
      · simp only [List.length_append, List.length_cons] at hf ⊢; omega
      · intro j
        have hf' : (listed.setIfInBounds i true).getD j false = false ↔ ¬ (j = i ∨ listed.getD j false = true) := by
          rw [← hget j]; simp
        rw [hf']
        have := hC j
        simp only [List.mem_append, List.mem_cons] at this ⊢
        have hiA : i ∉ A := g1
        have hiB : i ∉ B := by
          have := (List.nodup_append.1 hnd).2.1
          exact (List.nodup_cons.1 this).1
        constructor
        · intro q
          have hj : j ≠ i := by rintro rfl; exact q.elim hiA hiB
          obtain ⟨z1, z2⟩ := this.1 (q.elim .inl (fun z => .inr (.inr z)))
          exact ⟨z1, fun y => y.elim hj (fun y => by rw [z2] at y; cases y)⟩
        · rintro ⟨z1, z2⟩
          have z3 : listed.getD j false = false := by simpa using fun y => z2 (.inr y)
          rcases this.2 ⟨z1, z3⟩ with y | y | y
          · exact .inl y
          · exact absurd (.inl y) z2
          · exact .inr y
      · intro j hj k' hk'
        rw [hget] at hj ⊢
        rcases hj with rfl | hj
        · exact .inr (hpci k' hk')
        · exact .inr (hpc j hj k' hk')
      · exact v.out (fun j hj => (hget j).2 (.inr hj)) ((hget i).2 (.inl rfl))

end
end Go.Proofs.Ytdcdmpgigmhhpaa.E
