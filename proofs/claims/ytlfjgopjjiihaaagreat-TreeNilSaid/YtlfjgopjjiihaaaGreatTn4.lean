import Derived.Test.YtlfjgopjjiihaaaGreatTn3
namespace Go.Proofs.YtlfjgopjjiihaaaGreat.Tn
open Go Go.Proofs.YtlfjgopjjiihaaaGreat.E
set_option linter.unusedVariables false
set_option maxRecDepth 100000
theorem all_nil : ∀ p, p ∈ ([] : List (Option V × Bool)) → p.1 = some (.bool p.2) := fun p h => by cases h
theorem all_cons {x : Option V} {b : Bool} {l : List (Option V × Bool)} (h : x = some (.bool b)) (g : ∀ p, p ∈ l → p.1 = some (.bool p.2)) : ∀ p, p ∈ (x, b) :: l → p.1 = some (.bool p.2) :=
  fun p hp => (List.mem_cons.1 hp).elim (fun q => by subst q; exact h) (g p)
theorem cmp_some (op : BinOp) (hop : isCmp op = true) (n m : Int) : ∃ c, evBin op (i64 n) (i64 m) = some (.bool c) := by cases op <;> first | exact ⟨_, rfl⟩ | cases hop
theorem awakeCE : CE Tryz.prog 4 [] [] fun v _ => v = .bool true ∧ bare v = true := (ce_of_X rows noSums_ok awake0 all_nil).mono fun v h q => by
  rw [List.mem_singleton] at q; subst q; exact ⟨rfl, rfl⟩
theorem sum_ok : OkS Tryz.prog sum := by
  intro f args h v h' e
  unfold sum at e
  split at e
  · rename_i hf
    have hf : f = 4 := by simpa using hf
    subst hf
    injection e with e; injection e with e1 e2; subst e1; subst e2
    exact ⟨en4, (CE.pure awakeCE rfl h).mono fun v h q => q⟩
  · cases e
theorem ce_run {args : List V} {bs : List Bool} {cs : List (Option V × Bool)} (e : (evX tab sum asks 1000 14 3 args [] ⟨bs, []⟩).map (fun r => (r.1.map (·.1), r.2.asked)) = some ([.bool true], cs)) (hc : ∀ p, p ∈ cs → p.1 = some (.bool p.2)) : CE Tryz.prog 3 args [] fun v _ => v = .bool true :=
  (ce_of_X rows sum_ok e hc).mono fun v h q => by rw [List.mem_singleton] at q; exact q
theorem ce00 (n0 n1 n9 : Int) (e0 e1 : List V) (b4 : Bool) : CE Tryz.prog 3 [.agg [i64 n0, i64 n1, .nils, .nils, .bool b4], i64 n9] [] fun v _ => v = .bool true := by
  obtain ⟨ckl, hkl⟩ := cmp_some .lss rfl n0 1
  obtain ⟨ckg, hkg⟩ := cmp_some .gtr rfl n0 6
  obtain ⟨cn, hn⟩ := cmp_some .gtr rfl (nn ((0 : Nat) : Int) ((0 : Nat) : Int)) 20000
  obtain ⟨cdcc, hdcc⟩ := cmp_some .gtr rfl (cc n1) 1500
  obtain ⟨ce, he⟩ := cmp_some .eql rfl ((0 : Nat) : Int) 0
  obtain ⟨cf, hf⟩ := cmp_some .gtr rfl ((0 : Nat) : Int) 120
  obtain ⟨cg, hg⟩ := cmp_some .gtr rfl (IntKind.i64.wrap (((0 : Nat) : Int) + ((0 : Nat) : Int))) 160
  · cases ckl
    · cases ckg
      · cases cn
        · cases ce
          · cases cf
            · cases cg
              · exact ce_run (run00n5 n0 n1 n9 e0 e1 b4) (all_cons rfl (all_cons hg (all_cons hf (all_cons he (all_cons hg (all_cons hf (all_cons he (all_cons rfl (all_cons rfl (all_cons hn (all_cons rfl (all_cons hkg (all_cons hkl (all_cons rfl all_nil))))))))))))))
              · exact ce_run (run00n4 n0 n1 n9 e0 e1 b4) (all_cons hg (all_cons hf (all_cons he (all_cons rfl (all_cons rfl (all_cons hn (all_cons rfl (all_cons hkg (all_cons hkl (all_cons rfl all_nil))))))))))
            · exact ce_run (run00n3 n0 n1 n9 e0 e1 b4) (all_cons hf (all_cons he (all_cons rfl (all_cons rfl (all_cons hn (all_cons rfl (all_cons hkg (all_cons hkl (all_cons rfl all_nil)))))))))
          · exact ce_run (run00n2 n0 n1 n9 e0 e1 b4) (all_cons he (all_cons rfl (all_cons rfl (all_cons hn (all_cons rfl (all_cons hkg (all_cons hkl (all_cons rfl all_nil))))))))
        · exact ce_run (run00n0 n0 n1 n9 e0 e1 b4) (all_cons hn (all_cons rfl (all_cons hkg (all_cons hkl (all_cons rfl all_nil)))))
      · cases cn
        · cases cdcc
          · cases ce
            · cases cf
              · cases cg
                · exact ce_run (run00b5 n0 n1 n9 e0 e1 b4) (all_cons rfl (all_cons hg (all_cons hf (all_cons he (all_cons hg (all_cons hf (all_cons he (all_cons rfl (all_cons hdcc (all_cons hn (all_cons rfl (all_cons hkg (all_cons hkl (all_cons rfl all_nil))))))))))))))
                · exact ce_run (run00b4 n0 n1 n9 e0 e1 b4) (all_cons hg (all_cons hf (all_cons he (all_cons rfl (all_cons hdcc (all_cons hn (all_cons rfl (all_cons hkg (all_cons hkl (all_cons rfl all_nil))))))))))
              · exact ce_run (run00b3 n0 n1 n9 e0 e1 b4) (all_cons hf (all_cons he (all_cons rfl (all_cons hdcc (all_cons hn (all_cons rfl (all_cons hkg (all_cons hkl (all_cons rfl all_nil)))))))))
            · exact ce_run (run00b2 n0 n1 n9 e0 e1 b4) (all_cons he (all_cons rfl (all_cons hdcc (all_cons hn (all_cons rfl (all_cons hkg (all_cons hkl (all_cons rfl all_nil))))))))
          · exact ce_run (run00b1 n0 n1 n9 e0 e1 b4) (all_cons hdcc (all_cons hn (all_cons rfl (all_cons hkg (all_cons hkl (all_cons rfl all_nil))))))
        · exact ce_run (run00b0 n0 n1 n9 e0 e1 b4) (all_cons hn (all_cons rfl (all_cons hkg (all_cons hkl (all_cons rfl all_nil)))))
    · cases cn
      · cases cdcc
        · cases ce
          · cases cf
            · cases cg
              · exact ce_run (run00a5 n0 n1 n9 e0 e1 b4) (all_cons rfl (all_cons hg (all_cons hf (all_cons he (all_cons hg (all_cons hf (all_cons he (all_cons rfl (all_cons hdcc (all_cons hn (all_cons rfl (all_cons hkl (all_cons rfl all_nil)))))))))))))
              · exact ce_run (run00a4 n0 n1 n9 e0 e1 b4) (all_cons hg (all_cons hf (all_cons he (all_cons rfl (all_cons hdcc (all_cons hn (all_cons rfl (all_cons hkl (all_cons rfl all_nil)))))))))
            · exact ce_run (run00a3 n0 n1 n9 e0 e1 b4) (all_cons hf (all_cons he (all_cons rfl (all_cons hdcc (all_cons hn (all_cons rfl (all_cons hkl (all_cons rfl all_nil))))))))
          · exact ce_run (run00a2 n0 n1 n9 e0 e1 b4) (all_cons he (all_cons rfl (all_cons hdcc (all_cons hn (all_cons rfl (all_cons hkl (all_cons rfl all_nil)))))))
        · exact ce_run (run00a1 n0 n1 n9 e0 e1 b4) (all_cons hdcc (all_cons hn (all_cons rfl (all_cons hkl (all_cons rfl all_nil)))))
      · exact ce_run (run00a0 n0 n1 n9 e0 e1 b4) (all_cons hn (all_cons rfl (all_cons hkl (all_cons rfl all_nil))))
theorem ce01 (n0 n1 n9 : Int) (e0 e1 : List V) (b4 : Bool) : CE Tryz.prog 3 [.agg [i64 n0, i64 n1, .nils, (.sl e1), .bool b4], i64 n9] [] fun v _ => v = .bool true := by
  obtain ⟨ckl, hkl⟩ := cmp_some .lss rfl n0 1
  obtain ⟨ckg, hkg⟩ := cmp_some .gtr rfl n0 6
  obtain ⟨cn, hn⟩ := cmp_some .gtr rfl (nn ((0 : Nat) : Int) (e1.length : Int)) 20000
  obtain ⟨cdcc, hdcc⟩ := cmp_some .gtr rfl (cc n1) 1500
  obtain ⟨ce, he⟩ := cmp_some .eql rfl ((0 : Nat) : Int) 0
  obtain ⟨cf, hf⟩ := cmp_some .gtr rfl ((0 : Nat) : Int) 120
  obtain ⟨cg, hg⟩ := cmp_some .gtr rfl (IntKind.i64.wrap (((0 : Nat) : Int) + (e1.length : Int))) 160
  · cases ckl
    · cases ckg
      · cases cn
        · cases ce
          · cases cf
            · cases cg
              · exact ce_run (run01n5 n0 n1 n9 e0 e1 b4) (all_cons rfl (all_cons hg (all_cons hf (all_cons he (all_cons hg (all_cons hf (all_cons he (all_cons rfl (all_cons rfl (all_cons hn (all_cons rfl (all_cons hkg (all_cons hkl (all_cons rfl all_nil))))))))))))))
              · exact ce_run (run01n4 n0 n1 n9 e0 e1 b4) (all_cons hg (all_cons hf (all_cons he (all_cons rfl (all_cons rfl (all_cons hn (all_cons rfl (all_cons hkg (all_cons hkl (all_cons rfl all_nil))))))))))
            · exact ce_run (run01n3 n0 n1 n9 e0 e1 b4) (all_cons hf (all_cons he (all_cons rfl (all_cons rfl (all_cons hn (all_cons rfl (all_cons hkg (all_cons hkl (all_cons rfl all_nil)))))))))
          · exact ce_run (run01n2 n0 n1 n9 e0 e1 b4) (all_cons he (all_cons rfl (all_cons rfl (all_cons hn (all_cons rfl (all_cons hkg (all_cons hkl (all_cons rfl all_nil))))))))
        · exact ce_run (run01n0 n0 n1 n9 e0 e1 b4) (all_cons hn (all_cons rfl (all_cons hkg (all_cons hkl (all_cons rfl all_nil)))))
      · cases cn
        · cases cdcc
          · cases ce
            · cases cf
              · cases cg
                · exact ce_run (run01b5 n0 n1 n9 e0 e1 b4) (all_cons rfl (all_cons hg (all_cons hf (all_cons he (all_cons hg (all_cons hf (all_cons he (all_cons rfl (all_cons hdcc (all_cons hn (all_cons rfl (all_cons hkg (all_cons hkl (all_cons rfl all_nil))))))))))))))
                · exact ce_run (run01b4 n0 n1 n9 e0 e1 b4) (all_cons hg (all_cons hf (all_cons he (all_cons rfl (all_cons hdcc (all_cons hn (all_cons rfl (all_cons hkg (all_cons hkl (all_cons rfl all_nil))))))))))
              · exact ce_run (run01b3 n0 n1 n9 e0 e1 b4) (all_cons hf (all_cons he (all_cons rfl (all_cons hdcc (all_cons hn (all_cons rfl (all_cons hkg (all_cons hkl (all_cons rfl all_nil)))))))))
            · exact ce_run (run01b2 n0 n1 n9 e0 e1 b4) (all_cons he (all_cons rfl (all_cons hdcc (all_cons hn (all_cons rfl (all_cons hkg (all_cons hkl (all_cons rfl all_nil))))))))
          · exact ce_run (run01b1 n0 n1 n9 e0 e1 b4) (all_cons hdcc (all_cons hn (all_cons rfl (all_cons hkg (all_cons hkl (all_cons rfl all_nil))))))
        · exact ce_run (run01b0 n0 n1 n9 e0 e1 b4) (all_cons hn (all_cons rfl (all_cons hkg (all_cons hkl (all_cons rfl all_nil)))))
    · cases cn
      · cases cdcc
        · cases ce
          · cases cf
            · cases cg
              · exact ce_run (run01a5 n0 n1 n9 e0 e1 b4) (all_cons rfl (all_cons hg (all_cons hf (all_cons he (all_cons hg (all_cons hf (all_cons he (all_cons rfl (all_cons hdcc (all_cons hn (all_cons rfl (all_cons hkl (all_cons rfl all_nil)))))))))))))
              · exact ce_run (run01a4 n0 n1 n9 e0 e1 b4) (all_cons hg (all_cons hf (all_cons he (all_cons rfl (all_cons hdcc (all_cons hn (all_cons rfl (all_cons hkl (all_cons rfl all_nil)))))))))
            · exact ce_run (run01a3 n0 n1 n9 e0 e1 b4) (all_cons hf (all_cons he (all_cons rfl (all_cons hdcc (all_cons hn (all_cons rfl (all_cons hkl (all_cons rfl all_nil))))))))
          · exact ce_run (run01a2 n0 n1 n9 e0 e1 b4) (all_cons he (all_cons rfl (all_cons hdcc (all_cons hn (all_cons rfl (all_cons hkl (all_cons rfl all_nil)))))))
        · exact ce_run (run01a1 n0 n1 n9 e0 e1 b4) (all_cons hdcc (all_cons hn (all_cons rfl (all_cons hkl (all_cons rfl all_nil)))))
      · exact ce_run (run01a0 n0 n1 n9 e0 e1 b4) (all_cons hn (all_cons rfl (all_cons hkl (all_cons rfl all_nil))))
theorem ce10 (n0 n1 n9 : Int) (e0 e1 : List V) (b4 : Bool) : CE Tryz.prog 3 [.agg [i64 n0, i64 n1, (.sl e0), .nils, .bool b4], i64 n9] [] fun v _ => v = .bool true := by
  obtain ⟨ckl, hkl⟩ := cmp_some .lss rfl n0 1
  obtain ⟨ckg, hkg⟩ := cmp_some .gtr rfl n0 6
  obtain ⟨cn, hn⟩ := cmp_some .gtr rfl (nn (e0.length : Int) ((0 : Nat) : Int)) 20000
  obtain ⟨cdcc, hdcc⟩ := cmp_some .gtr rfl (cc n1) 1500
  obtain ⟨ce, he⟩ := cmp_some .eql rfl (e0.length : Int) 0
  obtain ⟨cf, hf⟩ := cmp_some .gtr rfl (e0.length : Int) 120
  obtain ⟨cg, hg⟩ := cmp_some .gtr rfl (IntKind.i64.wrap ((e0.length : Int) + ((0 : Nat) : Int))) 160
  · cases ckl
    · cases ckg
      · cases cn
        · cases ce
          · cases cf
            · cases cg
              · exact ce_run (run10n5 n0 n1 n9 e0 e1 b4) (all_cons rfl (all_cons hg (all_cons hf (all_cons he (all_cons hg (all_cons hf (all_cons he (all_cons rfl (all_cons rfl (all_cons hn (all_cons rfl (all_cons hkg (all_cons hkl (all_cons rfl all_nil))))))))))))))
              · exact ce_run (run10n4 n0 n1 n9 e0 e1 b4) (all_cons hg (all_cons hf (all_cons he (all_cons rfl (all_cons rfl (all_cons hn (all_cons rfl (all_cons hkg (all_cons hkl (all_cons rfl all_nil))))))))))
            · exact ce_run (run10n3 n0 n1 n9 e0 e1 b4) (all_cons hf (all_cons he (all_cons rfl (all_cons rfl (all_cons hn (all_cons rfl (all_cons hkg (all_cons hkl (all_cons rfl all_nil)))))))))
          · exact ce_run (run10n2 n0 n1 n9 e0 e1 b4) (all_cons he (all_cons rfl (all_cons rfl (all_cons hn (all_cons rfl (all_cons hkg (all_cons hkl (all_cons rfl all_nil))))))))
        · exact ce_run (run10n0 n0 n1 n9 e0 e1 b4) (all_cons hn (all_cons rfl (all_cons hkg (all_cons hkl (all_cons rfl all_nil)))))
      · cases cn
        · cases cdcc
          · cases ce
            · cases cf
              · cases cg
                · exact ce_run (run10b5 n0 n1 n9 e0 e1 b4) (all_cons rfl (all_cons hg (all_cons hf (all_cons he (all_cons hg (all_cons hf (all_cons he (all_cons rfl (all_cons hdcc (all_cons hn (all_cons rfl (all_cons hkg (all_cons hkl (all_cons rfl all_nil))))))))))))))
                · exact ce_run (run10b4 n0 n1 n9 e0 e1 b4) (all_cons hg (all_cons hf (all_cons he (all_cons rfl (all_cons hdcc (all_cons hn (all_cons rfl (all_cons hkg (all_cons hkl (all_cons rfl all_nil))))))))))
              · exact ce_run (run10b3 n0 n1 n9 e0 e1 b4) (all_cons hf (all_cons he (all_cons rfl (all_cons hdcc (all_cons hn (all_cons rfl (all_cons hkg (all_cons hkl (all_cons rfl all_nil)))))))))
            · exact ce_run (run10b2 n0 n1 n9 e0 e1 b4) (all_cons he (all_cons rfl (all_cons hdcc (all_cons hn (all_cons rfl (all_cons hkg (all_cons hkl (all_cons rfl all_nil))))))))
          · exact ce_run (run10b1 n0 n1 n9 e0 e1 b4) (all_cons hdcc (all_cons hn (all_cons rfl (all_cons hkg (all_cons hkl (all_cons rfl all_nil))))))
        · exact ce_run (run10b0 n0 n1 n9 e0 e1 b4) (all_cons hn (all_cons rfl (all_cons hkg (all_cons hkl (all_cons rfl all_nil)))))
    · cases cn
      · cases cdcc
        · cases ce
          · cases cf
            · cases cg
              · exact ce_run (run10a5 n0 n1 n9 e0 e1 b4) (all_cons rfl (all_cons hg (all_cons hf (all_cons he (all_cons hg (all_cons hf (all_cons he (all_cons rfl (all_cons hdcc (all_cons hn (all_cons rfl (all_cons hkl (all_cons rfl all_nil)))))))))))))
              · exact ce_run (run10a4 n0 n1 n9 e0 e1 b4) (all_cons hg (all_cons hf (all_cons he (all_cons rfl (all_cons hdcc (all_cons hn (all_cons rfl (all_cons hkl (all_cons rfl all_nil)))))))))
            · exact ce_run (run10a3 n0 n1 n9 e0 e1 b4) (all_cons hf (all_cons he (all_cons rfl (all_cons hdcc (all_cons hn (all_cons rfl (all_cons hkl (all_cons rfl all_nil))))))))
          · exact ce_run (run10a2 n0 n1 n9 e0 e1 b4) (all_cons he (all_cons rfl (all_cons hdcc (all_cons hn (all_cons rfl (all_cons hkl (all_cons rfl all_nil)))))))
        · exact ce_run (run10a1 n0 n1 n9 e0 e1 b4) (all_cons hdcc (all_cons hn (all_cons rfl (all_cons hkl (all_cons rfl all_nil)))))
      · exact ce_run (run10a0 n0 n1 n9 e0 e1 b4) (all_cons hn (all_cons rfl (all_cons hkl (all_cons rfl all_nil))))
theorem ce11 (n0 n1 n9 : Int) (e0 e1 : List V) (b4 : Bool) : CE Tryz.prog 3 [.agg [i64 n0, i64 n1, (.sl e0), (.sl e1), .bool b4], i64 n9] [] fun v _ => v = .bool true := by
  obtain ⟨ckl, hkl⟩ := cmp_some .lss rfl n0 1
  obtain ⟨ckg, hkg⟩ := cmp_some .gtr rfl n0 6
  obtain ⟨cn, hn⟩ := cmp_some .gtr rfl (nn (e0.length : Int) (e1.length : Int)) 20000
  obtain ⟨cdcc, hdcc⟩ := cmp_some .gtr rfl (cc n1) 1500
  obtain ⟨ce, he⟩ := cmp_some .eql rfl (e0.length : Int) 0
  obtain ⟨cf, hf⟩ := cmp_some .gtr rfl (e0.length : Int) 120
  obtain ⟨cg, hg⟩ := cmp_some .gtr rfl (IntKind.i64.wrap ((e0.length : Int) + (e1.length : Int))) 160
  · cases ckl
    · cases ckg
      · cases cn
        · cases ce
          · cases cf
            · cases cg
              · exact ce_run (run11n5 n0 n1 n9 e0 e1 b4) (all_cons rfl (all_cons hg (all_cons hf (all_cons he (all_cons hg (all_cons hf (all_cons he (all_cons rfl (all_cons rfl (all_cons hn (all_cons rfl (all_cons hkg (all_cons hkl (all_cons rfl all_nil))))))))))))))
              · exact ce_run (run11n4 n0 n1 n9 e0 e1 b4) (all_cons hg (all_cons hf (all_cons he (all_cons rfl (all_cons rfl (all_cons hn (all_cons rfl (all_cons hkg (all_cons hkl (all_cons rfl all_nil))))))))))
            · exact ce_run (run11n3 n0 n1 n9 e0 e1 b4) (all_cons hf (all_cons he (all_cons rfl (all_cons rfl (all_cons hn (all_cons rfl (all_cons hkg (all_cons hkl (all_cons rfl all_nil)))))))))
          · exact ce_run (run11n2 n0 n1 n9 e0 e1 b4) (all_cons he (all_cons rfl (all_cons rfl (all_cons hn (all_cons rfl (all_cons hkg (all_cons hkl (all_cons rfl all_nil))))))))
        · exact ce_run (run11n0 n0 n1 n9 e0 e1 b4) (all_cons hn (all_cons rfl (all_cons hkg (all_cons hkl (all_cons rfl all_nil)))))
      · cases cn
        · cases cdcc
          · cases ce
            · cases cf
              · cases cg
                · exact ce_run (run11b5 n0 n1 n9 e0 e1 b4) (all_cons rfl (all_cons hg (all_cons hf (all_cons he (all_cons hg (all_cons hf (all_cons he (all_cons rfl (all_cons hdcc (all_cons hn (all_cons rfl (all_cons hkg (all_cons hkl (all_cons rfl all_nil))))))))))))))
                · exact ce_run (run11b4 n0 n1 n9 e0 e1 b4) (all_cons hg (all_cons hf (all_cons he (all_cons rfl (all_cons hdcc (all_cons hn (all_cons rfl (all_cons hkg (all_cons hkl (all_cons rfl all_nil))))))))))
              · exact ce_run (run11b3 n0 n1 n9 e0 e1 b4) (all_cons hf (all_cons he (all_cons rfl (all_cons hdcc (all_cons hn (all_cons rfl (all_cons hkg (all_cons hkl (all_cons rfl all_nil)))))))))
            · exact ce_run (run11b2 n0 n1 n9 e0 e1 b4) (all_cons he (all_cons rfl (all_cons hdcc (all_cons hn (all_cons rfl (all_cons hkg (all_cons hkl (all_cons rfl all_nil))))))))
          · exact ce_run (run11b1 n0 n1 n9 e0 e1 b4) (all_cons hdcc (all_cons hn (all_cons rfl (all_cons hkg (all_cons hkl (all_cons rfl all_nil))))))
        · exact ce_run (run11b0 n0 n1 n9 e0 e1 b4) (all_cons hn (all_cons rfl (all_cons hkg (all_cons hkl (all_cons rfl all_nil)))))
    · cases cn
      · cases cdcc
        · cases ce
          · cases cf
            · cases cg
              · exact ce_run (run11a5 n0 n1 n9 e0 e1 b4) (all_cons rfl (all_cons hg (all_cons hf (all_cons he (all_cons hg (all_cons hf (all_cons he (all_cons rfl (all_cons hdcc (all_cons hn (all_cons rfl (all_cons hkl (all_cons rfl all_nil)))))))))))))
              · exact ce_run (run11a4 n0 n1 n9 e0 e1 b4) (all_cons hg (all_cons hf (all_cons he (all_cons rfl (all_cons hdcc (all_cons hn (all_cons rfl (all_cons hkl (all_cons rfl all_nil)))))))))
            · exact ce_run (run11a3 n0 n1 n9 e0 e1 b4) (all_cons hf (all_cons he (all_cons rfl (all_cons hdcc (all_cons hn (all_cons rfl (all_cons hkl (all_cons rfl all_nil))))))))
          · exact ce_run (run11a2 n0 n1 n9 e0 e1 b4) (all_cons he (all_cons rfl (all_cons hdcc (all_cons hn (all_cons rfl (all_cons hkl (all_cons rfl all_nil)))))))
        · exact ce_run (run11a1 n0 n1 n9 e0 e1 b4) (all_cons hdcc (all_cons hn (all_cons rfl (all_cons hkl (all_cons rfl all_nil)))))
      · exact ce_run (run11a0 n0 n1 n9 e0 e1 b4) (all_cons hn (all_cons rfl (all_cons hkl (all_cons rfl all_nil))))
theorem shape {H : Type} {d d1 : DataW H} {vs v1 : List V} (h : dV Tryz.prog d 24 = some vs) (hk : dV Tryz.prog d1 3 = some v1) : ∃ u1, v1 = [u1] ∧ CE Tryz.prog 3 [.agg vs, u1] [] fun v _ => v = .bool true := by
  obtain ⟨ps, rfl, h⟩ := dV_struct Tryz.underlying24 h
  obtain ⟨d0x, ps0, a0, b0, rfl, h0, g0, rfl⟩ := dVf_cons h
  obtain ⟨d1x, ps1, a1, b1, rfl, h1, g1, rfl⟩ := dVf_cons g0
  obtain ⟨d2x, ps2, a2, b2, rfl, h2, g2, rfl⟩ := dVf_cons g1
  obtain ⟨d3x, ps3, a3, b3, rfl, h3, g3, rfl⟩ := dVf_cons g2
  obtain ⟨d4x, ps4, a4, b4, rfl, h4, g4, rfl⟩ := dVf_cons g3
  obtain ⟨rfl, rfl⟩ := dVf_nil g4
  obtain ⟨n0, rfl, _, _⟩ := dV_int' Tryz.underlying3 h0
  obtain ⟨n1, rfl, _, _⟩ := dV_int' Tryz.underlying3 h1
  obtain ⟨b4, rfl⟩ := dV_bool Tryz.underlying4 h4
  obtain ⟨n9, rfl, _, _⟩ := dV_int' Tryz.underlying3 hk
  refine ⟨_, rfl, ?_⟩
  rcases dV_slice Tryz.underlying22 h2 with rfl | ⟨_, _, e0, _, _, rfl⟩ <;> rcases dV_slice Tryz.underlying22 h3 with rfl | ⟨_, _, e1, _, _, rfl⟩
  · exact ce00 n0 n1 n9 [] [] b4
  · exact ce01 n0 n1 n9 [] e1 b4
  · exact ce10 n0 n1 n9 e0 [] b4
  · exact ce11 n0 n1 n9 e0 e1 b4
end Go.Proofs.YtlfjgopjjiihaaaGreat.Tn
