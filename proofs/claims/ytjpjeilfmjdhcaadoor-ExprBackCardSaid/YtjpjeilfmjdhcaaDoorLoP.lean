/- LexerNotes, the plain law: a remark between two texts. No condition. -/
import Derived.Test.YtjpjeilfmjdhcaaDoorLnR
namespace Go.Proofs.YtjpjeilfmjdhcaaDoor.Lo
open Go Go.Proofs.YtjpjeilfmjdhcaaDoor.E
open Go.Proofs.YtjpjeilfmjdhcaaDoor.Ln
set_option maxRecDepth 100000
set_option linter.unusedVariables false
set_option linter.unusedSimpArgs false
theorem scan_fuel:∀ (m m':Nat) (t:List UInt8) (sk:Nat) (nt:Bool) (ws:List Wd) (e:Int),t.length ≤ m → t.length ≤ m' → scan m t sk nt ws e = scan m' t sk nt ws e
  | 0,0,t,sk,nt,ws,e,h,h' => rfl
  | 0,m' + 1,t,sk,nt,ws,e,h,h' => by
    have:t = [] := List.eq_nil_of_length_eq_zero (by omega)
    subst this
    rw [scan,scan,if_pos rfl]
  | m + 1,0,t,sk,nt,ws,e,h,h' => by
    have:t = [] := List.eq_nil_of_length_eq_zero (by omega)
    subst this
    rw [scan,scan,if_pos rfl]
  | m + 1,m' + 1,t,sk,nt,ws,e,h,h' => by
    rw [scan,scan]
    by_cases c:t = []
    · rw [if_pos c,if_pos c]
    · rw [if_neg c,if_neg c]
      have hw := dc_width t c
      by_cases z:e = 0
      · rw [if_neg (fun x => x z),if_neg (fun x => x z)]
        exact scan_fuel m m' _ _ _ _ _ (by simp; omega) (by simp; omega)
      · rw [if_pos z,if_pos z]
theorem step_ascii {b:UInt8} {t:List UInt8} {m sk:Nat} {nt:Bool} {ws:List Wd} (hb:b.toNat < 128):scan (m + 1) (b :: t) sk nt ws 0 = scan m t ((stepP (b :: t) sk nt ws).1 - 1) (stepP (b :: t) sk nt ws).2.1 (stepP (b :: t) sk nt ws).2.2.1 (stepP (b :: t) sk nt ws).2.2.2 := by
  rw [scan,if_neg (by simp),if_neg (fun y => y rfl),dc_ascii hb]
  rfl
theorem blank_step {b:UInt8} {t:List UInt8} {m:Nat} {ws:List Wd} (hb:b = 10 ∨ b = 9 ∨ b = 32):scan (m + 1) (b :: t) 0 false ws 0 = scan m t 0 false ws 0 := by
  have h128:b.toNat < 128 := by rcases hb with rfl | rfl | rfl <;> decide
  have e:stepP (b :: t) 0 false ws = (0,false,(ws,0)) := by
    unfold stepP
    rw [dc_ascii h128,if_neg (by decide),if_neg (by decide),if_pos (by rcases hb with rfl | rfl | rfl <;> decide)]
  rw [step_ascii h128,e]; rfl
/-! ### Words ahead -/
end Go.Proofs.YtjpjeilfmjdhcaaDoor.Lo
