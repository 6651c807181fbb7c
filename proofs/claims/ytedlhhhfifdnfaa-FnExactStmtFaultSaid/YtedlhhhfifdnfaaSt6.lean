/- StmtFault's walks: the program's own fit of a statement. -/
import Derived.Test.YtedlhhhfifdnfaaProg
import Derived.Test.YtedlhhhfifdnfaaStP
import Derived.WalkKit
import Derived.Outline
import Derived.Deep.LoopGhost
import Derived.Deep.Light
import Derived.KernelRfl
import Derived.IntWalk
import Derived.Lib.Hide
set_option linter.unusedVariables false
set_option linter.unusedSimpArgs false
namespace Go.Proofs.Ytedlhhhfifdnfaa
open Go.RowKit

def vb (n : Int) : Bool := decide (0 ≤ n) && decide (n < 8)
theorem varOk (n : Int) (w : World) : Calls Try.prog 113 #[.int .i64 n] w fun e w' => e = .returned (.bool (vb n)) ∧ w = w' := by
  by_cases h : 0 ≤ n
  all_goals
    go_enter Try.func113, Try.ntmps113
    go_wp2_with fail
    go_ret
    exact ⟨by simp [vb, *]; try omega, rfl⟩

set_option maxRecDepth 100000 in
set_option maxHeartbeats 1000000 in
theorem fitsW (s : St) (b o : Nat) (A1 A2 : Option Addr) (p1 p2 : Nat) (w : World) (c0 : w.cell? ⟨b, o, none⟩ = some (.int .i64 s.kind)) (c1 : w.cell? ⟨b, o + 1, none⟩ = some (.int .i64 s.a)) (c2 : w.cell? ⟨b, o + 2, none⟩ = some (.int .i64 s.b))
    (c3 : w.cell? ⟨b, o + 3, none⟩ = some (.slice A1 s.body.length p1)) (c4 : w.cell? ⟨b, o + 4, none⟩ = some (.slice A2 s.els.length p2)) :
    Calls Try.prog 87 #[.pointer (some ⟨b, o, none⟩)] w fun e w' => e = .returned (.bool (St.fits s)) ∧ w = w' := by
  have vA := varOk s.a w
  have vB := varOk s.b w
  cases hk1 : (s.kind == 1) with
  | true =>
    go_enter Try.func87, Try.ntmps87
    go_wp2_with (go_at_call 113; refine (varOk _ _).mono ?_; rintro e w' ⟨rfl, rfl⟩)
    all_goals
      go_ret
      refine ⟨congrArg Ending.returned (congrArg Value.bool ?_), rfl⟩
      clear c0 c1 c2 c3 c4 vA vB
      go_light
      simp only [St.fits, vb, hk1, cond_true, cond_false] at *
      simp [*] <;> intros <;> omega
  | false =>
    cases hk2 : (s.kind == 2) with
    | true =>
      go_enter Try.func87, Try.ntmps87
      go_wp2_with (go_at_call 113; refine (varOk _ _).mono ?_; rintro e w' ⟨rfl, rfl⟩)
      all_goals
        go_ret
        refine ⟨congrArg Ending.returned (congrArg Value.bool ?_), rfl⟩
        clear c0 c1 c2 c3 c4 vA vB
        go_light
        simp only [St.fits, vb, hk1, hk2, cond_true, cond_false] at *
        simp [*] <;> intros <;> omega
    | false =>
      cases hk3 : (s.kind == 3) with
      | true =>
        go_enter Try.func87, Try.ntmps87
        go_wp2_with (go_at_call 113; refine (varOk _ _).mono ?_; rintro e w' ⟨rfl, rfl⟩)
        all_goals
          go_ret
          refine ⟨congrArg Ending.returned (congrArg Value.bool ?_), rfl⟩
          clear c0 c1 c2 c3 c4 vA vB
          go_light
          simp only [St.fits, vb, hk1, hk2, hk3, cond_true, cond_false] at *
          simp [*] <;> intros <;> omega
      | false =>
        cases hk4 : (s.kind == 4) with
        | true =>
          go_enter Try.func87, Try.ntmps87
          go_wp2_with (go_at_call 113; refine (varOk _ _).mono ?_; rintro e w' ⟨rfl, rfl⟩)
          all_goals
            go_ret
            refine ⟨congrArg Ending.returned (congrArg Value.bool ?_), rfl⟩
            clear c0 c1 c2 c3 c4 vA vB
            go_light
            simp only [St.fits, vb, hk1, hk2, hk3, hk4, cond_true, cond_false] at *
            simp [*] <;> intros <;> omega
        | false =>
          go_enter Try.func87, Try.ntmps87
          go_wp2_with (go_at_call 113; refine (varOk _ _).mono ?_; rintro e w' ⟨rfl, rfl⟩)
          all_goals
            go_ret
            refine ⟨congrArg Ending.returned (congrArg Value.bool ?_), rfl⟩
            clear c0 c1 c2 c3 c4 vA vB
            go_light
            simp only [St.fits, vb, hk1, hk2, hk3, hk4, cond_true, cond_false] at *
            try (simp [*] <;> intros <;> omega)
end Go.Proofs.Ytedlhhhfifdnfaa
