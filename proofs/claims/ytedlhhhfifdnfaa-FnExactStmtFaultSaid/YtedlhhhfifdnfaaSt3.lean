/- StmtFault's walks: two copies are compared. -/
import Derived.Test.YtedlhhhfifdnfaaProg
import Derived.Test.YtedlhhhfifdnfaaStP
import Derived.WalkKit
import Derived.Outline
import Derived.Deep.LoopGhost
import Derived.StillTailTactics
import Derived.KernelRfl
import Derived.IntWalk
import Derived.Lib.Hide
set_option linter.unusedVariables false
set_option linter.unusedSimpArgs false
namespace Go.Proofs.Ytedlhhhfifdnfaa
open Go.RowKit

def EqS (n : Nat) : Prop := ∀ (xs : List St), St.dps xs ≤ n → ∀ (e e' : Nat) (v v' : Value) (w : World), Rd w (.slice e 5 (St.ds e xs)) [v] → Rd w (.slice e' 5 (St.ds e' xs)) [v'] →
    Calls Try.prog 12 #[v, v'] w fun e w' => e = .returned (.bool true) ∧ Below w.heap.size w w'

theorem eqE (n : Nat) (ih : EqS n) (s : St) (hs : St.dp s ≤ n + 1) (e e' : Nat) (v1 v2 v1' v2' : Value) (w : World) (H1 : Rd w (.slice e 5 (St.ds e s.body)) [v1]) (H2 : Rd w (.slice e 5 (St.ds e s.els)) [v2]) (H1' : Rd w (.slice e' 5 (St.ds e' s.body)) [v1']) (H2' : Rd w (.slice e' 5 (St.ds e' s.els)) [v2']) :
    Calls Try.prog 46 #[.agg #[.int .i64 s.kind, .int .i64 s.a, .int .i64 s.b, v1, v2], .agg #[.int .i64 s.kind, .int .i64 s.a, .int .i64 s.b, v1', v2']] w fun e w' => e = .returned (.bool true) ∧ Below w.heap.size w w' := by
  have k1 := dp_body s
  have k2 := dp_els s
  have HI := Lib.hid ih
  clear ih
  go_enter Try.func46, Try.ntmps46
  go_wp2_with fail
  refine (HI.out s.body (by omega) e e' _ _ _ (H1.below (below_new (below_box _) _)) (H1'.below (below_new (below_box _) _))).mono ?_
  rintro e w1 ⟨rfl, hb1⟩
  have hb1' := below_all (below_new (below_box _) _) hb1
  obtain ⟨hc, hf⟩ := bcell hb1
  go_wp2_with fail
  refine (HI.out s.els (by omega) _ _ _ _ _ (H2.below hb1') (H2'.below hb1')).mono ?_
  rintro e w2 ⟨rfl, hb2⟩
  go_wp2_with fail
  go_ret
  exact ⟨rfl, below_all hb1' hb2⟩

set_option maxRecDepth 100000 in
set_option maxHeartbeats 1000000 in
theorem eqS (n : Nat) (IH : ∀ m, m + 1 = n → EqS m) : EqS n := by
  intro xs hn e e' v v' w hv hv'
  obtain ⟨A, cap, rfl, hl, hel⟩ := Sts.open_ hv
  obtain ⟨A', cap', rfl, _, hel'⟩ := Sts.open_ hv'
  unfold maxLen at hl
  have HE := Lib.hid hel
  have HE' := Lib.hid hel'
  clear hel hel'
  go_enter Try.func12, Try.ntmps12
  go_wp2_with fail
  go_loopg [5] xs.length (fun k i wr => ∃ (j : Nat), k + j = xs.length ∧ i = .int .i64 j ∧ Below w.heap.size w wr)
  case atStart => exact ⟨0, by omega, rfl, Below.refl _ _⟩
  case round =>
    obtain ⟨j, hk, rfl, hb⟩ := hrel
    by_cases hlt : j < xs.length
    · obtain ⟨b, o, v1, v2, rfl, c0, c1, c2, c3, c4, H1, H2⟩ := HE.out j hlt
      obtain ⟨b', o', v1', v2', rfl, c0', c1', c2', c3', c4', H1', H2'⟩ := HE'.out j hlt
      have hmem := dp_mem (List.getElem_mem hlt)
      replace c0 := Below.cell' hb c0
      replace c1 := Below.cell' hb c1
      replace c2 := Below.cell' hb c2
      replace c3 := Below.cell' hb c3
      replace c4 := Below.cell' hb c4
      replace c0' := Below.cell' hb c0'
      replace c1' := Below.cell' hb c1'
      replace c2' := Below.cell' hb c2'
      replace c3' := Below.cell' hb c3'
      replace c4' := Below.cell' hb c4'
      cases n with
      | zero => exact absurd hn (by have := dp_body xs[j]; omega)
      | succ n =>
        go_wp2_with fail

        go_still_tail 8, (by kernel_rfl)
        change wpList _ _ _ _ _ wr.drew
        have hd : Below w.heap.size w wr.drew := below_drew hb
        go_wp2_with fail
        refine (eqE n (IH n rfl) xs[j] (by omega) e e' v1 v2 v1' v2' _ (H1.below hd) (H2.below hd) (H1'.below hd) (H2'.below hd)).mono ?_
        rintro e w1 ⟨rfl, hb1⟩
        have hb2 := below_all hd hb1
        go_wp2_with fail
        go_roundg (gk - 1)
        case measure => omega
        case rel => exact ⟨j + 1, by omega, by go_num, hb2⟩
    · go_wp2_with fail
      go_ret
      exact ⟨rfl, hb⟩
theorem eqS_all : ∀ n, EqS n
  | 0 => eqS 0 (fun m h => by omega)
  | n + 1 => eqS (n + 1) (fun m h => (Nat.succ.inj h).symm ▸ eqS_all n)
end Go.Proofs.Ytedlhhhfifdnfaa
