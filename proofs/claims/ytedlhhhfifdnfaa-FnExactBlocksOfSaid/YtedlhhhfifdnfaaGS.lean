/- The laws' own countings of room. -/
import Derived.Test.YtedlhhhfifdnfaaProg
import Derived.Test.YtedlhhhfifdnfaaGen
import Derived.WalkKit
import Derived.Outline
import Derived.Deep.LoopGhost
import Derived.Deep.DeepCutAuto
import Derived.Deep.CutBlock
import Derived.Deep.Light
import Derived.Deep.QuietTactic
import Derived.BigQuiet
import Derived.StillTailTactics
import Derived.KernelRfl
import Derived.IntWalk
import Derived.Deep.DeepMust
import Derived.Lib.Hide
import Derived.Test.YtedlhhhfifdnfaaGA
set_option linter.unusedVariables false
set_option linter.unusedSimpArgs false
namespace Go.Proofs.Ytedlhhhfifdnfaa
open Go.RowKit
set_option maxHeartbeats 1000000 in
theorem szInt64S (xs : List Int) (v : Value) (left : Int) (w : World) {e0 : Nat} (hv : Rd w (D.slice e0 1 (xs.map (D.int .i64))) [v]) (h0 : 0 ≤ left) (h1 : left ≤ 1048576) :
    Calls Try.prog 88 #[v, .int .i64 left] w fun e w' => ∃ l, e = .returned (.int .i64 l) ∧ Left left (D.cnt (D.slice 2 1 (xs.map (D.int .i64)))) l ∧ Below w.heap.size w w' := by
  rw [cnt_sl]
  obtain ⟨A, cap, rfl, hl, hel⟩ := ints_open hv
  unfold maxLen at hl
  have HE := Lib.hid hel
  clear hel
  rw [cnts_flat _ (by intro x _; rfl)]
  go_enter Try.func88, Try.ntmps88
  go_wp2_with fail
  · go_ret
    exact ⟨_, rfl, .inl rfl, Below.refl _ _⟩
  · go_ret
    exact ⟨_, rfl, .inr ⟨by omega, by omega⟩, Below.refl _ _⟩
set_option maxHeartbeats 1000000 in
theorem szUint32S (xs : List Int) (v : Value) (left : Int) (w : World) {e0 : Nat} (hv : Rd w (D.slice e0 1 (xs.map (D.int .u32))) [v]) (h0 : 0 ≤ left) (h1 : left ≤ 1048576) :
    Calls Try.prog 58 #[v, .int .i64 left] w fun e w' => ∃ l, e = .returned (.int .i64 l) ∧ Left left (D.cnt (D.slice 151 1 (xs.map (D.int .u32)))) l ∧ Below w.heap.size w w' := by
  rw [cnt_sl]
  obtain ⟨A, cap, rfl, hl, hel⟩ := ints_open hv
  unfold maxLen at hl
  have HE := Lib.hid hel
  clear hel
  rw [cnts_flat _ (by intro x _; rfl)]
  go_enter Try.func58, Try.ntmps58
  go_wp2_with fail
  · go_ret
    exact ⟨_, rfl, .inl rfl, Below.refl _ _⟩
  · go_ret
    exact ⟨_, rfl, .inr ⟨by omega, by omega⟩, Below.refl _ _⟩
set_option maxHeartbeats 1000000 in
theorem szInt64SS (xs : List (List Int)) (v : Value) (left : Int) (w : World) {e0 : Nat} (hv : Rd w (D.slice e0 1 (xs.map (fun y : List Int => D.slice 2 1 (y.map (D.int .i64))))) [v]) (h0 : 0 ≤ left) (h1 : left ≤ 1048576) :
    Calls Try.prog 54 #[v, .int .i64 left] w fun e w' => ∃ l, e = .returned (.int .i64 l) ∧ Left left (D.cnt (D.slice 63 1 (xs.map (fun y : List Int => D.slice 2 1 (y.map (D.int .i64)))))) l ∧ Below w.heap.size w w' := by
  rw [cnt_sl]
  obtain ⟨A, cap, rfl, hl, hel⟩ := lists_open hv
  unfold maxLen at hl
  have HE := Lib.hid hel
  clear hel
  go_enter Try.func54, Try.ntmps54
  go_wp2_with fail
  · go_ret
    exact ⟨_, rfl, .inl rfl, Below.refl _ _⟩
  · go_loopg [1, 5] xs.length (fun k l i wr => ∃ (j : Nat) (q : Int), k + j = xs.length ∧ i = .int .i64 j ∧ l = .int .i64 q ∧ 0 ≤ q ∧ q ≤ left ∧ Hid (q + (xs.length + D.cnts (xs.map (fun y : List Int => D.slice 2 1 (y.map (D.int .i64))))) = left + D.cnts ((xs.map (fun y : List Int => D.slice 2 1 (y.map (D.int .i64)))).drop j)) ∧ Below w.heap.size w wr)
    case atStart => exact ⟨0, _, by omega, rfl, rfl, by omega, by omega, by unfold Hid; rw [List.drop_zero]; omega, Below.refl _ _⟩
    case round =>
      obtain ⟨j, q, hk, rfl, rfl, hq0, hq1, hr, hb⟩ := hrel
      have HR := Lib.hid hr
      clear hr
      by_cases hlt : j < xs.length
      · have hd := Lib.hid (cnts_map_drop (fun y : List Int => D.slice 2 1 (y.map (D.int .i64))) xs j hlt)
        obtain ⟨b, o, A1, p1, rfl, c0, R1⟩ := HE.out j hlt
        replace c0 := Below.cell' hb c0
        go_wp2_with fail
        refine (szInt64S xs[j] _ q _ (R1.below hb) hq0 (by omega)).mono ?_
        rintro e w1 ⟨l, rfl, hl1, hb1⟩
        have HL := Lib.hid hl1
        have HB := Lib.hid (below_all hb hb1)
        clear hl1 hb1
        go_wp2_with fail
        · go_ret
          exact ⟨_, rfl, .inl rfl, HB.out⟩
        · go_roundg (gk - 1)
          case measure => omega
          case rel => exact ⟨j + 1, l, by omega, by go_num, rfl, by omega, by rcases HL.out with h | h <;> omega, by unfold Hid; have := hd.out; have := HR.out.out; rcases HL.out with h | h <;> omega, HB.out⟩
      · have hdn : (xs.map (fun y : List Int => D.slice 2 1 (y.map (D.int .i64)))).drop j = [] := List.drop_eq_nil_of_le (by rw [List.length_map]; omega)
        have HD := Lib.hid hdn
        clear hdn
        go_wp2_with fail
        go_ret
        exact ⟨_, rfl, .inr ⟨hq0, by have := HR.out.out; rw [HD.out] at this; simp only [D.cnts] at this; omega⟩, hb⟩
set_option maxHeartbeats 1000000 in
theorem szInstrS (xs : List GInstr) (v : Value) (left : Int) (w : World) {e0 : Nat} (hv : Rd w (D.slice e0 4 (xs.map GInstr.d)) [v]) (h0 : 0 ≤ left) (h1 : left ≤ 1048576) :
    Calls Try.prog 13 #[v, .int .i64 left] w fun e w' => ∃ l, e = .returned (.int .i64 l) ∧ Left left (D.cnt (D.slice 90 4 (xs.map GInstr.d))) l ∧ Below w.heap.size w w' := by
  rw [cnt_sl]
  obtain ⟨A, cap, rfl, hl, hel⟩ := GInstrs.open_ hv
  unfold maxLen at hl
  have HE := Lib.hid hel
  clear hel
  rw [cnts_flat _ (by intro x _; exact GInstr.cnt x)]
  go_enter Try.func13, Try.ntmps13
  go_wp2_with fail
  · go_ret
    exact ⟨_, rfl, .inl rfl, Below.refl _ _⟩
  · go_ret
    exact ⟨_, rfl, .inr ⟨by omega, by omega⟩, Below.refl _ _⟩
set_option maxHeartbeats 1000000 in
theorem szConstS (xs : List GConst) (v : Value) (left : Int) (w : World) {e0 : Nat} (hv : Rd w (D.slice e0 2 (xs.map GConst.d)) [v]) (h0 : 0 ≤ left) (h1 : left ≤ 1048576) :
    Calls Try.prog 55 #[v, .int .i64 left] w fun e w' => ∃ l, e = .returned (.int .i64 l) ∧ Left left (D.cnt (D.slice 154 2 (xs.map GConst.d))) l ∧ Below w.heap.size w w' := by
  rw [cnt_sl]
  obtain ⟨A, cap, rfl, hl, hel⟩ := GConsts.open_ hv
  unfold maxLen at hl
  have HE := Lib.hid hel
  clear hel
  rw [cnts_flat _ (by intro x _; exact GConst.cnt x)]
  go_enter Try.func55, Try.ntmps55
  go_wp2_with fail
  · go_ret
    exact ⟨_, rfl, .inl rfl, Below.refl _ _⟩
  · go_ret
    exact ⟨_, rfl, .inr ⟨by omega, by omega⟩, Below.refl _ _⟩
set_option maxHeartbeats 1000000 in
theorem szCertS (xs : List GCert) (v : Value) (left : Int) (w : World) {e0 : Nat} (hv : Rd w (D.slice e0 4 (xs.map GCert.d)) [v]) (h0 : 0 ≤ left) (h1 : left ≤ 1048576) :
    Calls Try.prog 57 #[v, .int .i64 left] w fun e w' => ∃ l, e = .returned (.int .i64 l) ∧ Left left (D.cnt (D.slice 159 4 (xs.map GCert.d))) l ∧ Below w.heap.size w w' := by
  rw [cnt_sl]
  obtain ⟨A, cap, rfl, hl, hel⟩ := GCerts.open_ hv
  unfold maxLen at hl
  have HE := Lib.hid hel
  clear hel
  rw [cnts_flat _ (by intro x _; exact GCert.cnt x)]
  go_enter Try.func57, Try.ntmps57
  go_wp2_with fail
  · go_ret
    exact ⟨_, rfl, .inl rfl, Below.refl _ _⟩
  · go_ret
    exact ⟨_, rfl, .inr ⟨by omega, by omega⟩, Below.refl _ _⟩
set_option maxHeartbeats 1000000 in
theorem szFunc (x : GFunc) (A1 : Option Addr) (p1 : Nat) (A2 : Option Addr) (p2 : Nat) (A3 : Option Addr) (p3 : Nat) (left : Int) (w : World) (R1 : Rd w (D.slice 2 1 (x.params.map (D.int .i64))) [.slice A1 (x.params).length p1]) (R2 : Rd w (D.slice 2 1 (x.locals.map (D.int .i64))) [.slice A2 (x.locals).length p2]) (R3 : Rd w (D.slice 90 4 (x.code.map GInstr.d)) [.slice A3 (x.code).length p3]) (h0 : 0 ≤ left) (h1 : left ≤ 1048576) :
    Calls Try.prog 89 #[.agg #[.slice A1 (x.params).length p1, .int .i64 x.result, .slice A2 (x.locals).length p2, .slice A3 (x.code).length p3], .int .i64 left] w fun e w' => ∃ l, e = .returned (.int .i64 l) ∧ Left left (D.cnt (GFunc.d x)) l ∧ Below w.heap.size w w' := by
  rw [GFunc.cnt]
  go_enter Try.func89, Try.ntmps89
  go_wp2_with fail
  refine (szInt64S x.params _ left _ (R1.below (below_box _)) (by omega) (by omega)).mono ?_
  rintro e w1 ⟨l1, rfl, hl1, hb1⟩
  have HL1 := Lib.hid hl1
  have HB1 := Lib.hid (below_all (below_box _) hb1)
  have hm1 : l1 ≤ 1048576 := by rcases hl1 with h | h <;> omega
  obtain ⟨hc, hf⟩ := bcell hb1
  have hz1 : w.heap.size < w1.heap.size := by have := hb1.size; first | (simp at this; omega) | omega
  clear hl1 hb1
  go_wp2_with fail
  · go_ret
    exact ⟨_, rfl, by exact .inl rfl, HB1.out⟩
  · skip
    go_wp2_with fail
    refine (szInt64S x.locals _ l1 _ (R2.below HB1.out) (by omega) (by omega)).mono ?_
    rintro e w2 ⟨l2, rfl, hl2, hb2⟩
    have HL2 := Lib.hid hl2
    have HB2 := Lib.hid (below_all HB1.out hb2)
    have hm2 : l2 ≤ 1048576 := by rcases hl2 with h | h <;> omega
    obtain ⟨hc, hf⟩ := bcell hb2
    have hz2 : w.heap.size < w2.heap.size := by have := hb2.size; first | (simp at this; omega) | omega
    clear hl2 hb2
    go_wp2_with fail
    · go_ret
      exact ⟨_, rfl, by exact .inl rfl, HB2.out⟩
    · skip
      go_wp2_with fail
      refine (szInstrS x.code _ l2 _ (R3.below HB2.out) (by omega) (by omega)).mono ?_
      rintro e w3 ⟨l3, rfl, hl3, hb3⟩
      have HL3 := Lib.hid hl3
      have HB3 := Lib.hid (below_all HB2.out hb3)
      have hm3 : l3 ≤ 1048576 := by rcases hl3 with h | h <;> omega
      obtain ⟨hc, hf⟩ := bcell hb3
      have hz3 : w.heap.size < w3.heap.size := by have := hb3.size; first | (simp at this; omega) | omega
      clear hl3 hb3
      go_wp2_with fail
      all_goals
        go_ret
        refine ⟨_, rfl, ?_, HB3.out⟩
        rcases HL1.out with h1' | h1' <;> rcases HL2.out with h2' | h2' <;> rcases HL3.out with h3' | h3' <;> first | exact .inl rfl | exact .inl h3' | omega | exact .inr ⟨by omega, by omega⟩
set_option maxHeartbeats 1000000 in
theorem szFuncS (xs : List GFunc) (v : Value) (left : Int) (w : World) {e0 : Nat} (hv : Rd w (D.slice e0 4 (xs.map GFunc.d)) [v]) (h0 : 0 ≤ left) (h1 : left ≤ 1048576) :
    Calls Try.prog 56 #[v, .int .i64 left] w fun e w' => ∃ l, e = .returned (.int .i64 l) ∧ Left left (D.cnt (D.slice 121 4 (xs.map GFunc.d))) l ∧ Below w.heap.size w w' := by
  rw [cnt_sl]
  obtain ⟨A, cap, rfl, hl, hel⟩ := GFuncs.open_ hv
  unfold maxLen at hl
  have HE := Lib.hid hel
  clear hel
  go_enter Try.func56, Try.ntmps56
  go_wp2_with fail
  · go_ret
    exact ⟨_, rfl, .inl rfl, Below.refl _ _⟩
  · go_loopg [1, 5] xs.length (fun k l i wr => ∃ (j : Nat) (q : Int), k + j = xs.length ∧ i = .int .i64 j ∧ l = .int .i64 q ∧ 0 ≤ q ∧ q ≤ left ∧ Hid (q + (xs.length + D.cnts (xs.map GFunc.d)) = left + D.cnts ((xs.map GFunc.d).drop j)) ∧ Below w.heap.size w wr)
    case atStart => exact ⟨0, _, by omega, rfl, rfl, by omega, by omega, by unfold Hid; rw [List.drop_zero]; omega, Below.refl _ _⟩
    case round =>
      obtain ⟨j, q, hk, rfl, rfl, hq0, hq1, hr, hb⟩ := hrel
      have HR := Lib.hid hr
      clear hr
      by_cases hlt : j < xs.length
      · have hd := Lib.hid (cnts_map_drop GFunc.d xs j hlt)
        obtain ⟨b, o, A1, p1, A2, p2, A3, p3, rfl, c0, c1, c2, c3, R1, R2, R3⟩ := HE.out j hlt
        replace c0 := Below.cell' hb c0
        replace c1 := Below.cell' hb c1
        replace c2 := Below.cell' hb c2
        replace c3 := Below.cell' hb c3
        go_wp2_with fail
        refine (szFunc xs[j] _ _ _ _ _ _ q _ (R1.below hb) (R2.below hb) (R3.below hb) hq0 (by omega)).mono ?_
        rintro e w1 ⟨l, rfl, hl1, hb1⟩
        have HL := Lib.hid hl1
        have HB := Lib.hid (below_all hb hb1)
        clear hl1 hb1
        go_wp2_with fail
        · go_ret
          exact ⟨_, rfl, .inl rfl, HB.out⟩
        · go_roundg (gk - 1)
          case measure => omega
          case rel => exact ⟨j + 1, l, by omega, by go_num, rfl, by omega, by rcases HL.out with h | h <;> omega, by unfold Hid; have := hd.out; have := HR.out.out; rcases HL.out with h | h <;> omega, HB.out⟩
      · have hdn : (xs.map GFunc.d).drop j = [] := List.drop_eq_nil_of_le (by rw [List.length_map]; omega)
        have HD := Lib.hid hdn
        clear hdn
        go_wp2_with fail
        go_ret
        exact ⟨_, rfl, .inr ⟨hq0, by have := HR.out.out; rw [HD.out] at this; simp only [D.cnts] at this; omega⟩, hb⟩
set_option maxHeartbeats 1000000 in
theorem szProgram (x : GProgram) (A1 : Option Addr) (p1 : Nat) (A2 : Option Addr) (p2 : Nat) (A3 : Option Addr) (p3 : Nat) (A4 : Option Addr) (p4 : Nat) (left : Int) (w : World) (R1 : Rd w (D.slice 63 1 (x.regions.map (fun y : List Int => D.slice 2 1 (y.map (D.int .i64))))) [.slice A1 (x.regions).length p1]) (R2 : Rd w (D.slice 154 2 (x.consts.map GConst.d)) [.slice A2 (x.consts).length p2]) (R3 : Rd w (D.slice 121 4 (x.funcs.map GFunc.d)) [.slice A3 (x.funcs).length p3]) (R4 : Rd w (D.slice 159 4 (x.certs.map GCert.d)) [.slice A4 (x.certs).length p4]) (h0 : 0 ≤ left) (h1 : left ≤ 1048576) :
    Calls Try.prog 22 #[.agg #[.slice A1 (x.regions).length p1, .slice A2 (x.consts).length p2, .slice A3 (x.funcs).length p3, .slice A4 (x.certs).length p4], .int .i64 left] w fun e w' => ∃ l, e = .returned (.int .i64 l) ∧ Left left (D.cnt (GProgram.d x)) l ∧ Below w.heap.size w w' := by
  rw [GProgram.cnt]
  go_enter Try.func22, Try.ntmps22
  go_wp2_with fail
  refine (szInt64SS x.regions _ left _ (R1.below (below_box _)) (by omega) (by omega)).mono ?_
  rintro e w1 ⟨l1, rfl, hl1, hb1⟩
  have HL1 := Lib.hid hl1
  have HB1 := Lib.hid (below_all (below_box _) hb1)
  have hm1 : l1 ≤ 1048576 := by rcases hl1 with h | h <;> omega
  obtain ⟨hc, hf⟩ := bcell hb1
  have hz1 : w.heap.size < w1.heap.size := by have := hb1.size; first | (simp at this; omega) | omega
  clear hl1 hb1
  go_wp2_with fail
  · go_ret
    exact ⟨_, rfl, by exact .inl rfl, HB1.out⟩
  · skip
    go_wp2_with fail
    refine (szConstS x.consts _ l1 _ (R2.below HB1.out) (by omega) (by omega)).mono ?_
    rintro e w2 ⟨l2, rfl, hl2, hb2⟩
    have HL2 := Lib.hid hl2
    have HB2 := Lib.hid (below_all HB1.out hb2)
    have hm2 : l2 ≤ 1048576 := by rcases hl2 with h | h <;> omega
    obtain ⟨hc, hf⟩ := bcell hb2
    have hz2 : w.heap.size < w2.heap.size := by have := hb2.size; first | (simp at this; omega) | omega
    clear hl2 hb2
    go_wp2_with fail
    · go_ret
      exact ⟨_, rfl, by exact .inl rfl, HB2.out⟩
    · skip
      go_wp2_with fail
      refine (szFuncS x.funcs _ l2 _ (R3.below HB2.out) (by omega) (by omega)).mono ?_
      rintro e w3 ⟨l3, rfl, hl3, hb3⟩
      have HL3 := Lib.hid hl3
      have HB3 := Lib.hid (below_all HB2.out hb3)
      have hm3 : l3 ≤ 1048576 := by rcases hl3 with h | h <;> omega
      obtain ⟨hc, hf⟩ := bcell hb3
      have hz3 : w.heap.size < w3.heap.size := by have := hb3.size; first | (simp at this; omega) | omega
      clear hl3 hb3
      go_wp2_with fail
      · go_ret
        exact ⟨_, rfl, by exact .inl rfl, HB3.out⟩
      · skip
        go_wp2_with fail
        refine (szCertS x.certs _ l3 _ (R4.below HB3.out) (by omega) (by omega)).mono ?_
        rintro e w4 ⟨l4, rfl, hl4, hb4⟩
        have HL4 := Lib.hid hl4
        have HB4 := Lib.hid (below_all HB3.out hb4)
        have hm4 : l4 ≤ 1048576 := by rcases hl4 with h | h <;> omega
        obtain ⟨hc, hf⟩ := bcell hb4
        have hz4 : w.heap.size < w4.heap.size := by have := hb4.size; first | (simp at this; omega) | omega
        clear hl4 hb4
        go_wp2_with fail
        all_goals
          go_ret
          refine ⟨_, rfl, ?_, HB4.out⟩
          rcases HL1.out with h1' | h1' <;> rcases HL2.out with h2' | h2' <;> rcases HL3.out with h3' | h3' <;> rcases HL4.out with h4' | h4' <;> first | exact .inl rfl | exact .inl h4' | omega | exact .inr ⟨by omega, by omega⟩
set_option maxHeartbeats 1000000 in
theorem szMemory (x : GMemory) (A1 : Option Addr) (p1 : Nat) (A2 : Option Addr) (p2 : Nat) (A3 : Option Addr) (p3 : Nat) (left : Int) (w : World) (R1 : Rd w (D.slice 151 1 (x.inn.map (D.int .u32))) [.slice A1 (x.inn).length p1]) (R2 : Rd w (D.slice 151 1 (x.out.map (D.int .u32))) [.slice A2 (x.out).length p2]) (R3 : Rd w (D.slice 151 1 (x.keep.map (D.int .u32))) [.slice A3 (x.keep).length p3]) (h0 : 0 ≤ left) (h1 : left ≤ 1048576) :
    Calls Try.prog 23 #[.agg #[.slice A1 (x.inn).length p1, .slice A2 (x.out).length p2, .slice A3 (x.keep).length p3], .int .i64 left] w fun e w' => ∃ l, e = .returned (.int .i64 l) ∧ Left left (D.cnt (GMemory.d x)) l ∧ Below w.heap.size w w' := by
  rw [GMemory.cnt]
  go_enter Try.func23, Try.ntmps23
  go_wp2_with fail
  refine (szUint32S x.inn _ left _ (R1.below (below_box _)) (by omega) (by omega)).mono ?_
  rintro e w1 ⟨l1, rfl, hl1, hb1⟩
  have HL1 := Lib.hid hl1
  have HB1 := Lib.hid (below_all (below_box _) hb1)
  have hm1 : l1 ≤ 1048576 := by rcases hl1 with h | h <;> omega
  obtain ⟨hc, hf⟩ := bcell hb1
  have hz1 : w.heap.size < w1.heap.size := by have := hb1.size; first | (simp at this; omega) | omega
  clear hl1 hb1
  go_wp2_with fail
  · go_ret
    exact ⟨_, rfl, by exact .inl rfl, HB1.out⟩
  · skip
    go_wp2_with fail
    refine (szUint32S x.out _ l1 _ (R2.below HB1.out) (by omega) (by omega)).mono ?_
    rintro e w2 ⟨l2, rfl, hl2, hb2⟩
    have HL2 := Lib.hid hl2
    have HB2 := Lib.hid (below_all HB1.out hb2)
    have hm2 : l2 ≤ 1048576 := by rcases hl2 with h | h <;> omega
    obtain ⟨hc, hf⟩ := bcell hb2
    have hz2 : w.heap.size < w2.heap.size := by have := hb2.size; first | (simp at this; omega) | omega
    clear hl2 hb2
    go_wp2_with fail
    · go_ret
      exact ⟨_, rfl, by exact .inl rfl, HB2.out⟩
    · skip
      go_wp2_with fail
      refine (szUint32S x.keep _ l2 _ (R3.below HB2.out) (by omega) (by omega)).mono ?_
      rintro e w3 ⟨l3, rfl, hl3, hb3⟩
      have HL3 := Lib.hid hl3
      have HB3 := Lib.hid (below_all HB2.out hb3)
      have hm3 : l3 ≤ 1048576 := by rcases hl3 with h | h <;> omega
      obtain ⟨hc, hf⟩ := bcell hb3
      have hz3 : w.heap.size < w3.heap.size := by have := hb3.size; first | (simp at this; omega) | omega
      clear hl3 hb3
      go_wp2_with fail
      all_goals
        go_ret
        refine ⟨_, rfl, ?_, HB3.out⟩
        rcases HL1.out with h1' | h1' <;> rcases HL2.out with h2' | h2' <;> rcases HL3.out with h3' | h3' <;> first | exact .inl rfl | exact .inl h3' | omega | exact .inr ⟨by omega, by omega⟩
end Go.Proofs.Ytedlhhhfifdnfaa
