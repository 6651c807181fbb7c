/- StmtFault's walks. -/
import Derived.Test.YtedlhhhfifdnfaaProg
import Derived.Test.YtedlhhhfifdnfaaStP
import Derived.WalkKit
import Derived.Outline
import Derived.Deep.LoopGhost
import Derived.KernelRfl
import Derived.IntWalk
import Derived.Lib.Hide
set_option linter.unusedVariables false
set_option linter.unusedSimpArgs false
namespace Go.Proofs.Ytedlhhhfifdnfaa
open Go.RowKit

def SzS (n : Nat) : Prop := ∀ (xs : List St), St.dps xs ≤ n → ∀ (e : Nat) (v : Value) (left : Int) (w : World), Rd w (.slice e 5 (St.ds e xs)) [v] → 0 ≤ left → left ≤ 1048576 →
    Calls Try.prog 8 #[v, .int .i64 left] w fun e w' => ∃ l, e = .returned (.int .i64 l) ∧ Left left (St.cnts xs) l ∧ Below w.heap.size w w'

theorem szE (n : Nat) (ih : SzS n) (s : St) (hs : St.dp s ≤ n + 1) (e : Nat) (v1 v2 : Value) (left : Int) (w : World) (H1 : Rd w (.slice e 5 (St.ds e s.body)) [v1]) (H2 : Rd w (.slice e 5 (St.ds e s.els)) [v2]) (h0 : 0 ≤ left) (h1 : left ≤ 1048576) :
    Calls Try.prog 41 #[.agg #[.int .i64 s.kind, .int .i64 s.a, .int .i64 s.b, v1, v2], .int .i64 left] w fun e w' => ∃ l, e = .returned (.int .i64 l) ∧ Left left (St.cnts s.body + St.cnts s.els) l ∧ Below w.heap.size w w' := by
  have k1 := dp_body s
  have k2 := dp_els s
  have HI := Lib.hid ih
  clear ih
  go_enter Try.func41, Try.ntmps41
  go_wp2_with fail
  refine (HI.out s.body (by omega) e _ left _ (H1.below (below_box _)) h0 h1).mono ?_
  rintro e w1 ⟨l, rfl, hl, hb1⟩
  have HL := Lib.hid hl
  have hl2 : l ≤ 1048576 := by rcases hl with h | h <;> omega
  clear hl
  obtain ⟨hc, hf⟩ := bcell hb1
  go_wp2_with fail
  · go_ret
    refine ⟨_, rfl, ?_, below_all (below_box _) hb1⟩
    rcases HL.out with h | h
    · exact .inl rfl
    · omega
  · refine (HI.out s.els (by omega) _ _ l _ (H2.below (below_all (below_box _) hb1)) (by omega) hl2).mono ?_
    rintro e w2 ⟨l2, rfl, hl3, hb2⟩
    have HL2 := Lib.hid hl3
    clear hl3
    go_wp2_with fail
    all_goals
      go_ret
      refine ⟨_, rfl, ?_, below_all (below_all (below_box _) hb1) hb2⟩
      rcases HL.out with h | h <;> rcases HL2.out with h' | h' <;> first | omega | exact .inl h' | exact .inl rfl | exact .inr ⟨by omega, by omega⟩

theorem szS (n : Nat) (IH : ∀ m, m + 1 = n → SzS m) : SzS n := by
  intro xs hn e v left w hv h0 h1
  obtain ⟨A, cap, rfl, hl, hel⟩ := Sts.open_ hv
  unfold maxLen at hl
  have HE := Lib.hid hel
  clear hel
  go_enter Try.func8, Try.ntmps8
  go_wp2_with fail
  · go_ret
    exact ⟨_, rfl, .inl rfl, Below.refl _ _⟩
  · go_loopg [1, 5] xs.length (fun k l i wr => ∃ (j : Nat) (q : Int), k + j = xs.length ∧ i = .int .i64 j ∧ l = .int .i64 q ∧ 0 ≤ q ∧ q ≤ left ∧ q + St.cnts xs + k = left + St.cnts (xs.drop j) ∧ Below w.heap.size w wr)
    case atStart => exact ⟨0, _, by omega, rfl, rfl, by omega, by omega, by rw [List.drop_zero]; omega, Below.refl _ _⟩
    case round =>
      obtain ⟨j, q, hk, rfl, rfl, hq0, hq1, hr, hb⟩ := hrel
      by_cases hlt : j < xs.length
      · obtain ⟨b, o, v1, v2, rfl, c0, c1, c2, c3, c4, H1, H2⟩ := HE.out j hlt
        have hd := Lib.hid (cnts_drop' xs j hlt)
        have he := Lib.hid (cnt_eq xs[j])
        have hmem := dp_mem (List.getElem_mem hlt)
        have c0 := Below.cell' hb c0
        have c1 := Below.cell' hb c1
        have c2 := Below.cell' hb c2
        have c3 := Below.cell' hb c3
        have c4 := Below.cell' hb c4
        cases n with
        | zero => exact absurd hn (by have := dp_body xs[j]; omega)
        | succ n =>
          go_wp2_with fail
          refine (szE n (IH n rfl) xs[j] (by omega) e v1 v2 q _ (H1.below hb) (H2.below hb) hq0 (by omega)).mono ?_
          rintro e w1 ⟨l, rfl, hl, hb1⟩
          have HL := Lib.hid hl
          clear hl
          go_wp2_with fail
          · go_ret
            refine ⟨_, rfl, .inl rfl, below_all hb hb1⟩
          · go_roundg (gk - 1)
            case measure => omega
            case rel => exact ⟨j + 1, l, by omega, by go_num, rfl, by omega, by rcases HL.out with h | h <;> omega, by have := hd.out; have := he.out; rcases HL.out with h | h <;> omega, below_all hb hb1⟩
      · have hdn := List.drop_eq_nil_of_le (show xs.length ≤ j by omega)
        have HD := Lib.hid hdn
        clear hdn
        go_wp2_with fail
        go_ret
        exact ⟨_, rfl, .inr ⟨hq0, by rw [HD.out] at hr; simp only [St.cnts] at hr; omega⟩, hb⟩
theorem szS_all : ∀ n, SzS n
  | 0 => szS 0 (fun m h => by omega)
  | n + 1 => szS (n + 1) (fun m h => (Nat.succ.inj h).symm ▸ szS_all n)
end Go.Proofs.Ytedlhhhfifdnfaa
