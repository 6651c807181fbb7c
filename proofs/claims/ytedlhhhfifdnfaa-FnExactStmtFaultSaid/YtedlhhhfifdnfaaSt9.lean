/- StmtFault: the law's walk. -/
import Derived.Test.YtedlhhhfifdnfaaProg
import Derived.Test.YtedlhhhfifdnfaaSt1
import Derived.Test.YtedlhhhfifdnfaaSt2
import Derived.Test.YtedlhhhfifdnfaaSt3
import Derived.Test.YtedlhhhfifdnfaaSt8
set_option linter.unusedVariables false
set_option linter.unusedSimpArgs false
namespace Go.Proofs.Ytedlhhhfifdnfaa
open Go.RowKit

mutual
theorem dp_le : ∀ s : St, St.dp s ≤ St.cnt s
  | .mk k a b x y => by
    have h1 := dps_le x
    have h2 := dps_le y
    simp only [St.dp, St.cnt]
    omega
theorem dps_le : ∀ xs : List St, St.dps xs ≤ St.cnts xs
  | [] => Nat.zero_le _
  | s :: r => by
    have h1 := dp_le s
    have h2 := dps_le r
    simp only [St.dps, St.cnts]
    omega
end

set_option maxHeartbeats 1000000 in
theorem stmtFault_law (xs : List St) (e : Nat) (v : Value) (w : World) (hv : Rd w (.slice e 5 (St.ds e xs)) [v]) :
    Calls Try.prog 3 #[v] w fun e w' => e = .returned (.bool true) ∧ Below w.heap.size w w' := by
  have HV := Lib.hid hv
  clear hv
  go_enter Try.func3, Try.ntmps3
  go_wp2_with fail
  refine (szS_all (St.dps xs) xs (Nat.le_refl _) e v 1048576 w HV.out (by omega) (by omega)).mono ?_
  rintro e1 w1 ⟨l, rfl, hl, hb1⟩
  rcases hl with rfl | ⟨h0, h1⟩
  · go_wp2_with fail
    go_ret
    exact ⟨rfl, hb1⟩
  · have hcn : St.cnts xs ≤ 1048576 := by omega
    have hdp := dps_le xs
    have HL := Lib.hid h1
    have HB1 := Lib.hid hb1
    clear h1 hb1
    go_wp2_with fail
    refine (toS_all (St.dps xs) xs (Nat.le_refl _) e v _ (HV.out.below HB1.out) hcn).mono ?_
    rintro e1 w2 ⟨A2, n2, c2, g2, rfl, ho2, hb2⟩
    have R2 := Lib.hid ho2.rd
    have HB2 := Lib.hid (below_all HB1.out hb2)
    clear ho2 hb2
    go_wp2_with fail
    refine (specFault xs _ _ _ R2.out hcn).mono ?_
    rintro e1 w3 ⟨rfl, hb3⟩
    have HB3 := Lib.hid (below_all HB2.out hb3)
    clear hb3 R2
    go_wp2_with fail
    refine (toS_all (St.dps xs) xs (Nat.le_refl _) e v _ (HV.out.below HB3.out) hcn).mono ?_
    rintro e1 w4 ⟨A4, n4, c4, g4, rfl, ho4, hb4⟩
    have R4 := Lib.hid ho4.rd
    have HB4 := Lib.hid (below_all HB3.out hb4)
    clear ho4 hb4
    go_wp2_with fail
    refine (implFault xs _ _ _ R4.out hcn (by omega)).mono ?_
    rintro e1 w5 ⟨rfl, hb5⟩
    have R5 := Lib.hid (R4.out.below hb5)
    have HB5 := Lib.hid (below_all HB4.out hb5)
    clear hb5 R4
    go_wp2_with fail
    refine (toS_all (St.dps xs) xs (Nat.le_refl _) e v _ (HV.out.below HB5.out) hcn).mono ?_
    rintro e1 w6 ⟨A6, n6, c6, g6, rfl, ho6, hb6⟩
    have R6 := Lib.hid ho6.rd
    have R6' := Lib.hid (R5.out.below hb6)
    have HB6 := Lib.hid (below_all HB5.out hb6)
    clear ho6 hb6 R5
    go_wp2_with fail
    refine (eqS_all (St.dps xs) xs (Nat.le_refl _) _ _ _ _ _ R6'.out R6.out).mono ?_
    rintro e1 w7 ⟨rfl, hb7⟩
    have HB7 := Lib.hid (below_all HB6.out hb7)
    clear hb7
    go_wp2_with fail
    go_ret
    exact ⟨rfl, HB7.out⟩
end Go.Proofs.Ytedlhhhfifdnfaa
