/- Nodes in bytes: what is meant by a node's bytes, and that only these are read. No condition. -/
import Derived.Test.YtdcdmpgigmhhpaaRcP
namespace Go.Proofs.Ytdcdmpgigmhhpaa.Nd
open Go Go.Proofs.Ytdcdmpgigmhhpaa.E
open Go.Proofs.Ytdcdmpgigmhhpaa.Va Go.Proofs.Ytdcdmpgigmhhpaa.Rc
set_option maxRecDepth 100000
set_option linter.unusedVariables false
set_option linter.unusedSimpArgs false

structure N where
  leaf : Bool
  keys : List (List Int)
  vals : List (List Int)
  kids : List Int
def less (a b : List Int) : Bool := Op.bytesLess (by8 a) (by8 b)
def keyAt (ks : List (List Int)) (i : Nat) : Prop := 0 < (ks.getD i []).length ∧ (ks.getD i []).length ≤ 120 ∧ (0 < i → less (ks.getD (i - 1) []) (ks.getD i []) = true)
def keysP (ks : List (List Int)) : Prop := ∀ i, i < ks.length → keyAt ks i
def formP (n : N) : Prop := keysP n.keys ∧ (if n.leaf = true then n.kids = [] ∧ n.vals.length = n.keys.length ∧ ∀ i, i < n.vals.length → (n.keys.getD i []).length + (n.vals.getD i []).length ≤ 160
  else 0 < n.keys.length ∧ n.vals = [] ∧ n.kids.length = n.keys.length + 1 ∧ ∀ k, k ∈ n.kids → 1 ≤ k ∧ k < 10000)
def pc (p : List Int) : List Int := numB p.length ++ p
def cellL (c : List Int × List Int) : List Int := pc c.1 ++ pc c.2
def cellI (c : List Int × Int) : List Int := pc c.1 ++ numB c.2.toNat
def spell (n : N) : List Int := if n.leaf = true then 1 :: (numB n.keys.length ++ (n.keys.zip n.vals).flatMap cellL)
  else 2 :: (numB n.keys.length ++ (numB (n.kids.headD 0).toNat ++ (n.keys.zip n.kids.tail).flatMap cellI))

/-! ### Reading -/
def numP (bound : Int) (b : List Int) : Option (Int × List Int) := if (takeF b 0 0).2.2 = 0 ∧ (takeF b 0 0).1 ≤ bound then some ((takeF b 0 0).1, b.drop (takeF b 0 0).2.1.toNat) else none
def pieceP (b : List Int) : Option (List Int × List Int) := match numP b.length b with
  | none => none
  | some (n, c) => if n > c.length then none else some (c.take n.toNat, c.drop n.toNat)
def cellsP {α : Type} (one : List Int → Option (α × List Int)) : Nat → List Int → Option (List α × List Int)
  | 0, b => some ([], b)
  | n + 1, b => match one b with
    | none => none
    | some (x, c) => match cellsP one n c with
      | none => none
      | some (xs, d) => some (x :: xs, d)
def oneL (b : List Int) : Option ((List Int × List Int) × List Int) := match pieceP b with
  | none => none
  | some (k, c) => match pieceP c with
    | none => none
    | some (v, d) => some ((k, v), d)
def oneI (b : List Int) : Option ((List Int × Int) × List Int) := match pieceP b with
  | none => none
  | some (k, c) => match numP 10000 c with
    | none => none
    | some (v, d) => some ((k, v), d)
def nodeP (b : List Int) : Option (N × List Int) := match b with
  | [] => none
  | t :: c => if t = 1 then (match numP (t :: c).length c with
      | none => none
      | some (n, d) => match cellsP oneL n.toNat d with
        | none => none
        | some (cs, e) => some (⟨true, cs.map (·.1), cs.map (·.2), []⟩, e)) else if t = 2 then (match numP (t :: c).length c with
      | none => none
      | some (n, d) => match numP 10000 d with
        | none => none
        | some (k, e) => match cellsP oneI n.toNat e with
          | none => none
          | some (cs, f) => some (⟨false, cs.map (·.1), [], k :: cs.map (·.2)⟩, f)) else none

theorem numP_of {n : Nat} {bound : Int} (hn : n < 18446744073709551616) (hb : (n : Int) ≤ bound) (r : List Int) : numP bound (numB n ++ r) = some ((n : Int), r) := by
  unfold numP
  rw [takeF_num n hn]
  simp only [Int.toNat_natCast, List.drop_left]
  rw [if_pos ⟨trivial, hb⟩]
theorem numP_back {bound n : Int} {b c : List Int} (hb : Byt b) (h : numP bound b = some (n, c)) : b = numB n.toNat ++ c ∧ 0 ≤ n ∧ n ≤ bound ∧ n < 18446744073709551616 ∧ (takeF b 0 0).2.2 = 0 ∧ n = (takeF b 0 0).1 ∧ c = b.drop (takeF b 0 0).2.1.toNat := by
  unfold numP at h
  split at h
  · rename_i q
    injection h with h; injection h with h1 h2; subst h1; subst h2
    obtain ⟨l0, l1⟩ := takeF_range b 0 0 hb (by decide) (by decide)
    exact ⟨take_back hb q.1, l0, q.2, l1, q.1, rfl, rfl⟩
  · cases h
theorem pieceP_of (p r : List Int) (hl : p.length < 1000000) : pieceP (pc p ++ r) = some (p, r) := by
  unfold pieceP pc
  rw [List.append_assoc, numP_of (by omega) (by simp; omega)]
  simp only [Int.toNat_natCast, List.take_left, List.drop_left]
  rw [if_neg (by simp; omega)]
theorem pieceP_back {b p c : List Int} (hb : Byt b) (h : pieceP b = some (p, c)) : b = pc p ++ c := by
  unfold pieceP at h
  split at h
  · cases h
  · rename_i n d hd
    split at h
    · cases h
    · rename_i q
      injection h with h; injection h with h1 h2; subst h1; subst h2
      obtain ⟨g1, g2, g3, _⟩ := numP_back hb hd
      unfold pc
      have : (d.take n.toNat).length = n.toNat := by rw [List.length_take]; omega
      rw [this, List.append_assoc, List.take_append_drop]
      exact g1
theorem Byt.right {a b : List Int} (h : Byt (a ++ b)) : Byt b := fun m hm => h m (List.mem_append_right _ hm)
theorem Byt.left {a b : List Int} (h : Byt (a ++ b)) : Byt a := fun m hm => h m (List.mem_append_left _ hm)
theorem cellsP_of {α : Type} {one : List Int → Option (α × List Int)} {enc : α → List Int} {P : α → Prop} (ho : ∀ x r, P x → one (enc x ++ r) = some (x, r)) : ∀ (xs : List α) (r : List Int), (∀ x, x ∈ xs → P x) → cellsP one xs.length (xs.flatMap enc ++ r) = some (xs, r)
  | [], r, _ => rfl
  | x :: xs, r, h => by
    simp only [List.length_cons, List.flatMap_cons, List.append_assoc, cellsP, ho x _ (h x (by simp)), cellsP_of ho xs r (fun y hy => h y (by simp [hy]))]
theorem cellsP_back {α : Type} {one : List Int → Option (α × List Int)} {enc : α → List Int} (ho : ∀ b x c, Byt b → one b = some (x, c) → b = enc x ++ c) : ∀ (n : Nat) (b c : List Int) (xs : List α), Byt b → cellsP one n b = some (xs, c) → b = xs.flatMap enc ++ c ∧ xs.length = n
  | 0, b, c, xs, hb, h => by simp [cellsP] at h; obtain ⟨rfl, rfl⟩ := h; simp
  | n + 1, b, c, xs, hb, h => by
    simp only [cellsP] at h
    split at h
    · cases h
    · rename_i x d hx
      split at h
      · cases h
      · rename_i ys e he
        injection h with h; injection h with h1 h2; subst h1; subst h2
        have g1 := ho b x d hb hx
        rw [g1] at hb
        obtain ⟨k1, k2⟩ := cellsP_back ho n d _ ys (Byt.right hb) he
        exact ⟨by rw [g1]; simp [← k1], by simp [k2]⟩
theorem oneL_of (x : List Int × List Int) (r : List Int) (h : x.1.length < 1000000 ∧ x.2.length < 1000000) : oneL (cellL x ++ r) = some (x, r) := by
  unfold oneL cellL
  rw [List.append_assoc, pieceP_of _ _ h.1]
  simp only [pieceP_of _ _ h.2]
theorem oneI_of (x : List Int × Int) (r : List Int) (h : x.1.length < 1000000 ∧ 0 ≤ x.2 ∧ x.2 ≤ 10000) : oneI (cellI x ++ r) = some (x, r) := by
  unfold oneI cellI
  rw [List.append_assoc, pieceP_of _ _ h.1]
  obtain ⟨k, v⟩ := x
  obtain ⟨n, rfl⟩ := Int.eq_ofNat_of_zero_le h.2.1
  simp only [Int.toNat_natCast] at *
  rw [numP_of (by omega) (by omega)]
theorem oneL_back (b : List Int) (x : List Int × List Int) (c : List Int) (hb : Byt b) (h : oneL b = some (x, c)) : b = cellL x ++ c := by
  unfold oneL at h
  split at h
  · cases h
  · rename_i k d hk
    split at h
    · cases h
    · rename_i v e hv
      injection h with h; injection h with h1 h2; subst h1; subst h2
      have g1 := pieceP_back hb hk
      have hb2 := hb
      rw [g1] at hb2
      have g2 := pieceP_back (Byt.right hb2) hv
      unfold cellL
      rw [List.append_assoc, ← g2]; exact g1
theorem oneI_back (b : List Int) (x : List Int × Int) (c : List Int) (hb : Byt b) (h : oneI b = some (x, c)) : b = cellI x ++ c := by
  unfold oneI at h
  split at h
  · cases h
  · rename_i k d hk
    split at h
    · cases h
    · rename_i v e hv
      injection h with h; injection h with h1 h2; subst h1; subst h2
      have g1 := pieceP_back hb hk
      have hb2 := hb
      rw [g1] at hb2
      have g2 := (numP_back (Byt.right hb2) hv).1
      unfold cellI
      rw [List.append_assoc, ← g2]; exact g1
theorem zip_maps {α β : Type} : ∀ l : List (α × β), (l.map (·.1)).zip (l.map (·.2)) = l
  | [] => rfl
  | x :: l => by simp [zip_maps l]
theorem map_zip {α β : Type} : ∀ (a : List α) (b : List β), a.length = b.length → (a.zip b).map (·.1) = a ∧ (a.zip b).map (·.2) = b
  | [], [], _ => by simp
  | x :: a, y :: b, h => by
    have := map_zip a b (by simpa using h)
    simp [this.1, this.2]
  | [], _ :: _, h => by simp at h
  | _ :: _, [], h => by simp at h

/-- A node as it must be to be written. -/
theorem keys_small {ks : List (List Int)} (h : keysP ks) : ∀ k, k ∈ ks → 0 < k.length ∧ k.length ≤ 120 := by
  intro k hk
  obtain ⟨i, hi, rfl⟩ := List.getElem_of_mem hk
  have := h i hi
  simp only [keyAt, List.getD_eq_getElem?_getD, List.getElem?_eq_getElem hi, Option.getD_some] at this
  exact ⟨this.1, this.2.1⟩
theorem vals_small {n : N} (h : formP n) (hl : n.leaf = true) : ∀ k, k ∈ n.vals → k.length ≤ 160 := by
  intro k hk
  have h2 := h.2
  rw [if_pos hl] at h2
  obtain ⟨i, hi, rfl⟩ := List.getElem_of_mem hk
  have := h2.2.2 i hi
  simp only [List.getD_eq_getElem?_getD, List.getElem?_eq_getElem hi, Option.getD_some] at this
  omega
theorem flat_le {α : Type} (f : α → List Int) (hf : ∀ x, 0 < (f x).length) : ∀ l : List α, l.length ≤ (l.flatMap f).length
  | [] => by simp
  | x :: l => by
    have := flat_le f hf l
    have := hf x
    simp only [List.length_cons, List.flatMap_cons, List.length_append]; omega
theorem cellL_pos (x : List Int × List Int) : 0 < (cellL x).length := by
  have := numB_pos x.1.length
  simp only [cellL, pc, List.length_append]; omega
theorem cellI_pos (x : List Int × Int) : 0 < (cellI x).length := by
  have := numB_pos x.1.length
  simp only [cellI, pc, List.length_append]; omega

theorem nodeP_of {n : N} (h : formP n) (hk : n.keys.length < 1000000) (r : List Int) : nodeP (spell n ++ r) = some (n, r) := by
  obtain ⟨leaf, keys, vals, kids⟩ := n
  have h2 := h.2
  cases leaf with
  | true =>
    rw [if_pos rfl] at h2
    obtain ⟨q1, q2, q3⟩ := h2
    simp only at q1 q2 q3 hk
    subst q1
    have e : spell ⟨true, keys, vals, []⟩ ++ r = 1 :: (numB keys.length ++ ((keys.zip vals).flatMap cellL ++ r)) := by simp [spell]
    have hz : (keys.zip vals).length = keys.length := by simp; omega
    have hfl := flat_le cellL cellL_pos (keys.zip vals)
    rw [e]
    simp only [nodeP, if_true]
    rw [numP_of (by omega) (by simp only [List.length_cons, List.length_append]; omega)]
    simp only [Int.toNat_natCast]
    have := cellsP_of (P := fun x => x.1.length < 1000000 ∧ x.2.length < 1000000) oneL_of (keys.zip vals) r (fun x hx => by
      have a1 := keys_small h.1 x.1 (List.of_mem_zip hx).1
      have a2 := vals_small h rfl x.2 (List.of_mem_zip hx).2
      omega)
    rw [hz] at this
    rw [this]
    simp only [(map_zip keys vals q2.symm).1, (map_zip keys vals q2.symm).2]
  | false =>
    simp only [Bool.false_eq_true, if_false] at h2
    obtain ⟨q1, q2, q3, q4⟩ := h2
    simp only at q1 q2 q3 q4 hk
    subst q2
    cases kids with
    | nil => simp at q3
    | cons k0 ks =>
      have l0 := q4 k0 (by simp)
      obtain ⟨m, rfl⟩ := Int.eq_ofNat_of_zero_le (show 0 ≤ k0 by omega)
      have hks : keys.length = ks.length := by simp at q3; omega
      have e : spell ⟨false, keys, [], (m : Int) :: ks⟩ ++ r = 2 :: (numB keys.length ++ (numB m ++ ((keys.zip ks).flatMap cellI ++ r))) := by simp [spell]
      have hz : (keys.zip ks).length = keys.length := by simp; omega
      have hfl := flat_le cellI cellI_pos (keys.zip ks)
      rw [e]
      simp only [nodeP]
      rw [if_neg (by decide), if_pos trivial, numP_of (by omega) (by simp only [List.length_cons, List.length_append]; omega)]
      simp only [Int.toNat_natCast]
      rw [numP_of (by omega) (by omega)]
      simp only
      have := cellsP_of (P := fun x => x.1.length < 1000000 ∧ 0 ≤ x.2 ∧ x.2 ≤ 10000) oneI_of (keys.zip ks) r (fun x hx => by
        have a1 := keys_small h.1 x.1 (List.of_mem_zip hx).1
        have a2 := q4 x.2 (List.mem_cons_of_mem _ (List.of_mem_zip hx).2)
        omega)
      rw [hz] at this
      rw [this]
      simp only [(map_zip keys ks hks).1, (map_zip keys ks hks).2]
theorem nodeP_back {b r : List Int} {n : N} (hb : Byt b) (h : nodeP b = some (n, r)) : b = spell n ++ r := by
  cases b with
  | nil => cases h
  | cons t c =>
    have hc : Byt c := fun m hm => hb m (by simp [hm])
    simp only [nodeP] at h
    split at h
    · rename_i ht; subst ht
      split at h
      · cases h
      · rename_i n1 d hn
        split at h
        · cases h
        · rename_i cs e hcs
          injection h with h; injection h with h1 h2; subst h1; subst h2
          have g1 := (numP_back hc hn).1
          have hc2 := hc
          rw [g1] at hc2
          obtain ⟨g2, g3⟩ := cellsP_back oneL_back _ _ _ _ (Byt.right hc2) hcs
          simp only [spell, if_true, List.length_map, g3, zip_maps, List.cons_append, List.append_assoc]
          rw [← g2, ← g1]
    · split at h
      · rename_i ht; subst ht
        split at h
        · cases h
        · rename_i n1 d hn
          split at h
          · cases h
          · rename_i k e hk
            split at h
            · cases h
            · rename_i cs f hcs
              injection h with h; injection h with h1 h2; subst h1; subst h2
              have g1 := (numP_back hc hn).1
              have hc2 := hc
              rw [g1] at hc2
              have g2 := (numP_back (Byt.right hc2) hk).1
              have hc3 := Byt.right hc2
              rw [g2] at hc3
              obtain ⟨g3, g4⟩ := cellsP_back oneI_back _ _ _ _ (Byt.right hc3) hcs
              simp only [spell, if_neg (show ¬ (false = true) by decide), List.length_map, g4, List.headD_cons, List.tail_cons, zip_maps, List.cons_append, List.append_assoc]
              rw [← g3, ← g2, ← g1]
      · cases h
end Go.Proofs.Ytdcdmpgigmhhpaa.Nd
