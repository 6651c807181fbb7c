import Derived.Test.YtedlhhhfifdnfaaProg
import Derived.Test.YtedlhhhfifdnfaaGen
import Derived.WalkKit
import Derived.Outline
import Derived.Deep.LoopGhost
import Derived.Deep.DeepCutAuto
import Derived.Deep.CutBlock
import Derived.Deep.Light
import Derived.Deep.QuietTactic
import Derived.BigQuiet
import Derived.StillTailTactics
import Derived.KernelRfl
import Derived.IntWalk
import Derived.Deep.DeepMust
import Derived.Lib.Hide
import Derived.Test.YtedlhhhfifdnfaaBlP
set_option linter.unusedVariables false
set_option linter.unusedSimpArgs false
namespace Go.Proofs.Ytedlhhhfifdnfaa
open Go.RowKit
theorem goes_l5 (n : Int) (w : World) : Calls Try.prog 48 #[.int .i64 n] w fun e w' => e = .returned (.bool (n == 25 || n == 26 || n == 27)) ∧ w = w' := by
  go_enter Try.func48, Try.ntmps48
  go_wp2_with fail
  all_goals
    go_ret
    refine ⟨congrArg Ending.returned (congrArg Value.bool ?_), rfl⟩
    go_light
    first | rfl | (simp [*]; done) | (simp_all; done)
theorem names_impl (n : Int) (b o : Nat) (w : World) (hc : w.cell? ⟨b, o, none⟩ = some (.int .i64 n)) : Calls Try.prog 50 #[.pointer (some ⟨b, o, none⟩)] w fun e w' => e = .returned (.bool (n == 25 || n == 26 || n == 27)) ∧ w = w' := by
  go_enter Try.func50, Try.ntmps50
  go_wp2_with fail
  all_goals
    go_ret
    refine ⟨congrArg Ending.returned (congrArg Value.bool ?_), rfl⟩
    go_light
    first | rfl | (simp [*]; done) | (simp_all; done)
theorem names_quiet (n : Int) (b o : Nat) (w : World) (hc : w.cell? ⟨b, o, none⟩ = some (.int .i64 n)) : Calls Try.prog 50 #[.pointer (some ⟨b, o, none⟩)] w fun e w' => e = .returned (.bool (n == 25 || n == 26 || n == 27)) ∧ w' = w := (names_impl n b o w hc).mono fun _ _ h => ⟨h.1, h.2.symm⟩
theorem goes_quiet (n : Int) (w : World) : Calls Try.prog 48 #[.int .i64 n] w fun e w' => e = .returned (.bool (n == 25 || n == 26 || n == 27)) ∧ w' = w := (goes_l5 n w).mono fun _ _ h => ⟨h.1, h.2.symm⟩
theorem below_impl (n m : Int) (w : World) : Calls Try.prog 51 #[.int .i64 n, .int .i64 m] w fun e w' => e = .returned (.bool (decide (0 ≤ n) && decide (n < m))) ∧ w = w' := by
  go_enter Try.func51, Try.ntmps51
  by_cases h1 : 0 ≤ n <;> by_cases h2 : n < m
  all_goals
    go_wp2_with fail
    go_ret
    exact ⟨by simp [h1, h2], rfl⟩
set_option maxHeartbeats 1000000 in
theorem good_l5 (xs : List GInstr) (v : Value) (w : World) {e0 : Nat} (hv : Rd w (D.slice e0 4 (xs.map GInstr.d)) [v]) :
    Calls Try.prog 47 #[v] w fun e w' => e = .returned (.bool (codeGood xs)) ∧ w = w' := by
  obtain ⟨A, cap, rfl, hl, hel⟩ := GInstrs.open_ hv
  unfold maxLen at hl
  have HE := Lib.hid hel
  clear hel
  go_enter Try.func47, Try.ntmps47
  by_cases hr : 1 ≤ xs.length ∧ xs.length ≤ 1024
  · obtain ⟨hr1, hr2⟩ := hr
    go_wp2_with fail
    go_loopg [4] xs.length (fun gk i wr => ∃ (j : Nat), gk + j = xs.length ∧ i = .int .i64 j ∧ w = wr ∧ Hid (codeGood xs = (xs.drop j).all (inCode xs.length)))
    case atStart => exact ⟨0, by omega, rfl, rfl, by unfold Hid codeGood; simp [hr1, hr2]⟩
    case round =>
      obtain ⟨j, hkj, rfl, rfl, hg⟩ := hrel
      by_cases hlt : j < xs.length
      · obtain ⟨b, o, rfl, c0, c1, c2, c3⟩ := HE.out j hlt
        have hdr : codeGood xs = (inCode xs.length xs[j] && (xs.drop (j + 1)).all (inCode xs.length)) := by
          rw [hg.out, List.drop_eq_getElem_cons hlt, List.all_cons]
        have HD := Lib.hid hdr
        clear hdr hg
        have C0 := Lib.hid c0
        go_wp2_with fail
        refine (goes_l5 _ _).mono ?_
        rintro e w1 ⟨rfl, rfl⟩
        cases hgo : goes xs[j] with
        | false =>
          have hgo' := hgo
          unfold goes at hgo'
          have HG := Lib.hid hgo
          rw [hgo']
          clear hgo hgo'
          go_wp2_with fail
          all_goals
            go_roundg (gk - 1)
            case measure => omega
            case rel => exact ⟨j + 1, by omega, by go_num, rfl, by unfold Hid; rw [HD.out, inCode, HG.out]; rfl⟩
        | true =>
          have hgo' := hgo
          unfold goes at hgo'
          have HG := Lib.hid hgo
          rw [hgo']
          clear hgo hgo'
          by_cases h1 : 0 ≤ xs[j].c
          · by_cases h2 : xs[j].c < xs.length
            · go_wp2_with fail
              all_goals
                go_roundg (gk - 1)
                case measure => omega
                case rel => exact ⟨j + 1, by omega, by go_num, rfl, by unfold Hid; rw [HD.out, inCode, HG.out]; simp [h1, h2]⟩
            · go_wp2_with fail
              go_ret
              refine ⟨congrArg Ending.returned (congrArg Value.bool ?_), rfl⟩
              rw [HD.out, inCode, HG.out]
              have h3 : decide (xs[j].c < (xs.length : Int)) = false := decide_eq_false (by omega)
              rw [h3]
              simp only [Bool.and_false, Bool.not_true, Bool.or_false, Bool.false_and]
          · go_wp2_with fail
            go_ret
            refine ⟨congrArg Ending.returned (congrArg Value.bool ?_), rfl⟩
            rw [HD.out, inCode, HG.out]
            have h3 : decide (0 ≤ xs[j].c) = false := decide_eq_false (by omega)
            rw [h3]
            rfl
      · go_wp2_with fail
        go_ret
        exact ⟨by rw [hg.out, List.drop_eq_nil_of_le (by omega)]; rfl, rfl⟩
  · have hf : codeGood xs = false := by
      unfold codeGood
      by_cases h1 : 1 ≤ xs.length
      · have h2 : ¬ xs.length ≤ 1024 := fun h => hr ⟨h1, h⟩
        simp [h2]
      · simp [h1]
    have HF := Lib.hid hf
    clear hf
    go_wp2_with fail
    all_goals
      go_ret
      exact ⟨by rw [HF.out]; rfl, rfl⟩
end Go.Proofs.Ytedlhhhfifdnfaa
