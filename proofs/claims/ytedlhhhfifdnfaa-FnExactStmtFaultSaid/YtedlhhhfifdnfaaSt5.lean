/- StmtFault's walks: the reference's levels, and its answer. -/
import Derived.Test.YtedlhhhfifdnfaaProg
import Derived.Test.YtedlhhhfifdnfaaStP
import Derived.WalkKit
import Derived.Outline
import Derived.Deep.LoopGhost
import Derived.Deep.Light
import Derived.KernelRfl
import Derived.IntWalk
import Derived.Lib.Hide
set_option linter.unusedVariables false
set_option linter.unusedSimpArgs false
namespace Go.Proofs.Ytedlhhhfifdnfaa
open Go.RowKit

theorem levs_drop (xs : List St) (j : Nat) (h : j < xs.length) : St.levs (xs.drop j) = max (St.lev xs[j]) (St.levs (xs.drop (j + 1))) := by
  rw [List.drop_eq_getElem_cons h, St.levs]
theorem lev_eq (s : St) : St.lev s = max (St.levs s.body + if s.kind = 3 then 1 else 0) (St.levs s.els) := by cases s; rfl
mutual
theorem lev_le : ∀ s : St, St.lev s ≤ St.cnt s
  | .mk k a b x y => by
    have h1 := levs_le x
    have h2 := levs_le y
    simp only [St.lev, St.cnt]
    split <;> omega
theorem levs_le : ∀ xs : List St, St.levs xs ≤ St.cnts xs
  | [] => Nat.zero_le _
  | s :: r => by
    have h1 := lev_le s
    have h2 := levs_le r
    simp only [St.levs, St.cnts]
    omega
end
def LvS (n : Nat) : Prop := ∀ (xs : List St), St.dps xs ≤ n → ∀ (e : Nat) (v : Value) (w : World), Rd w (.slice e 5 (St.ds e xs)) [v] → St.cnts xs ≤ 1048576 →
    Calls Try.prog 43 #[v] w fun e w' => e = .returned (.int .i64 (St.levs xs)) ∧ w = w'

set_option maxRecDepth 100000 in
set_option maxHeartbeats 1000000 in
theorem lvS (n : Nat) (IH : ∀ m, m + 1 = n → LvS m) : LvS n := by
  intro xs hn e v w hv hcn
  obtain ⟨A, cap, rfl, hl, hel⟩ := Sts.open2 hv
  unfold maxLen at hl
  have HE := Lib.hid hel
  clear hel
  go_enter Try.func43, Try.ntmps43
  go_wp2_with fail
  go_loopg [3, 4] xs.length (fun k m i wr => ∃ (j q : Nat), k + j = xs.length ∧ i = .int .i64 j ∧ m = .int .i64 q ∧ q ≤ 1048576 ∧ Hid (max q (St.levs (xs.drop j)) = St.levs xs) ∧ w = wr)
  case atStart => exact ⟨0, 0, by omega, rfl, rfl, by omega, by unfold Hid; rw [List.drop_zero]; omega, rfl⟩
  case round =>
    obtain ⟨j, q, hk, rfl, rfl, hq, hr, rfl⟩ := hrel
    by_cases hlt : j < xs.length
    · obtain ⟨b, o, A1, p1, A2, p2, rfl, c0, c1, c2, c3, c4, H1, H2⟩ := HE.out j hlt
      have hmem := dp_mem (List.getElem_mem hlt)
      have db := dp_body xs[j]
      have de := dp_els xs[j]
      have hld := Lib.hid (levs_drop xs j hlt)
      have hle := Lib.hid (lev_eq xs[j])
      have hcd := Lib.hid (cnts_drop' xs j hlt)
      have hce := Lib.hid (cnt_eq xs[j])
      have hcl := cnts_drop_le xs j
      have l1 := levs_le xs[j].body
      have l2 := levs_le xs[j].els
      have hr' := Lib.hid hr
      have hb1 : St.cnts xs[j].body ≤ 1048575 ∧ St.cnts xs[j].els ≤ 1048575 := by have := hcd.out; have := hce.out; omega
      obtain ⟨hb1, hb2⟩ := hb1
      clear hr
      cases n with
      | zero => exact absurd hn (by have := dp_body xs[j]; omega)
      | succ n =>
        have HI := Lib.hid (IH n rfl)
        clear IH
        cases hkb : (xs[j].kind == 3)
        all_goals
          have HK := Lib.hid hkb
          go_wp2_with fail
          refine (HI.out xs[j].body (by omega) e _ _ H1 (by omega)).mono ?_
          rintro e1 w1 ⟨rfl, rfl⟩
          go_wp2_with fail
          refine (HI.out xs[j].els (by omega) e _ _ H2 (by omega)).mono ?_
          rintro e1 w1 ⟨rfl, rfl⟩
          go_wp2_with fail
          all_goals
            go_roundg (gk - 1)
            case measure => omega
            case rel =>
              refine ⟨j + 1, max q (St.lev xs[j]), by omega, by go_num, ?_, ?_, ?_, rfl⟩
              · refine congrArg (Value.int .i64) ?_
                rw [hle.out]
                first
                  | (rw [if_pos (beq_iff_eq.mp HK.out)]; omega)
                  | (rw [if_neg (beq_eq_false_iff_ne.mp HK.out)]; omega)
              · have := lev_le xs[j]
                have := hcd.out
                omega
              · unfold Hid
                rw [← hr'.out.out, hld.out]
                omega
    · have hdn := List.drop_eq_nil_of_le (show xs.length ≤ j by omega)
      have HD := Lib.hid hdn
      have h1 := Lib.hid hr
      clear hdn hr
      go_wp2_with fail
      go_ret
      refine ⟨congrArg Ending.returned (congrArg (Value.int .i64) ?_), rfl⟩
      have := h1.out.out
      rw [HD.out] at this
      simp only [St.levs] at this
      omega
theorem lvS_all : ∀ n, LvS n
  | 0 => lvS 0 (fun m h => by omega)
  | n + 1 => lvS (n + 1) (fun m h => (Nat.succ.inj h).symm ▸ lvS_all n)
end Go.Proofs.Ytedlhhhfifdnfaa
