/- The laws' own copies. -/
import Derived.Test.YtedlhhhfifdnfaaProg
import Derived.Test.YtedlhhhfifdnfaaGen
import Derived.WalkKit
import Derived.Outline
import Derived.Deep.LoopGhost
import Derived.Deep.DeepCutAuto
import Derived.Deep.CutBlock
import Derived.Deep.Light
import Derived.Deep.QuietTactic
import Derived.BigQuiet
import Derived.StillTailTactics
import Derived.KernelRfl
import Derived.IntWalk
import Derived.Deep.DeepMust
import Derived.Lib.Hide
import Derived.Test.YtedlhhhfifdnfaaGA
set_option linter.unusedVariables false
set_option linter.unusedSimpArgs false
namespace Go.Proofs.Ytedlhhhfifdnfaa
open Go.RowKit
theorem infoInt64S : (Try.prog.info? 2).map (fun i => (i.zero, i.size, i.bytes)) = some (some (.int .i64 0), 1, 8) := by kernel_rfl
set_option maxRecDepth 100000 in
set_option maxHeartbeats 1000000 in
theorem toInt64S (xs : List Int) (v : Value) (w : World) {e0 : Nat} (hv : Rd w (D.slice e0 1 (xs.map (D.int .i64))) [v]) (hcn : D.cnt (D.slice 2 1 (xs.map (D.int .i64))) ≤ 1048576) :
    Calls Try.prog 95 #[v] w fun e w' => ∃ A n cap h, e = .returned (.slice A n cap) ∧ Own w' w.heap.size (D.slice 2 1 (xs.map (D.int .i64))) [.slice A n cap] h ∧ Below w.heap.size w w' := by
  rw [cnt_sl] at hcn
  obtain ⟨A, cap, rfl, hl, hel⟩ := ints_open hv
  unfold maxLen at hl
  have HE := Lib.hid hel
  clear hel
  obtain ⟨Z, hZ, hmk⟩ := run_make_of (P := Try.prog) 63 2 _ 1 8 (by kernel_rfl) infoInt64S xs.length (by omega) (by omega)
  have f0 := Fill.start (w0 := w) (E := 2) (n := xs.length) (sz := 1) hZ
  clear hZ
  go_enter Try.func95, Try.ntmps95
  go_wp2_with fail
  go_loopg [4] xs.length (fun k i wr => ∃ (j : Nat) (h : Hp), k + j = xs.length ∧ i = .int .i64 j ∧ Fill w wr 2 1 xs.length ((xs.take j).map (D.int .i64)) h)
  case atStart => exact ⟨0, [], by omega, rfl, by rw [List.take_zero]; exact f0⟩
  case round =>
    obtain ⟨j, h, hk, rfl, f⟩ := hrel
    clear f0 hmk
    by_cases hlt : j < xs.length
    · have hcm := cnts_mem (D.int .i64) xs j hlt
      have hdl : ((xs.take j).map (D.int .i64)).length = j := by rw [List.length_map, List.length_take]; omega
      have hsn := Lib.hid (map_snoc (D.int .i64) xs j hlt)
      have HD := Lib.hid hdl
      clear hdl
      have F := Lib.hid f
      have hB := f.lt
      obtain ⟨q0, d0⟩ := f.cell0 j hlt (by omega)
      rw [Nat.mul_one] at d0
      have hfr := f.free
      obtain ⟨b, o, rfl, c0⟩ := HE.out j hlt
      replace c0 := Below.cell' f.below c0
      clear f
      go_wp2_with fail
      go_roundg (gk - 1)
      case measure => omega
      case rel =>
        refine ⟨j + 1, h ++ [], by omega, by go_num, ?_⟩
        have st := F.out.step (Own.int_ wr _ .i64 xs[j]) (Below.refl _ wr) (by rw [HD.out]; exact hlt) rfl
        rw [hsn.out, HD.out, Nat.mul_one] at st
        exact st
    · have HD : (xs.take j).map (D.int .i64) = xs.map (D.int .i64) := by rw [List.take_of_length_le (by omega)]
      have F := Lib.hid f
      clear f
      have HD2 := Lib.hid HD
      clear HD
      go_wp2_with fail
      go_ret
      have f := F.out
      rw [HD2.out] at f
      obtain ⟨hp, ow⟩ := f.done (by rw [List.length_map]) (by unfold maxLen; omega)
      exact ⟨_, _, _, hp, rfl, ow, f.below⟩
set_option maxRecDepth 100000 in
set_option maxHeartbeats 2000000 in
theorem toInstr (x : GInstr) (w : World) (hcn : D.cnt (GInstr.d x) ≤ 1048576) :
    Calls Try.prog 49 #[.agg #[.int .i64 x.op, .int .i64 x.a, .int .i64 x.b, .int .i64 x.c]] w fun e w' => ∃ h, e = .returned (.agg #[.int .i64 x.op, .int .i64 x.a, .int .i64 x.b, .int .i64 x.c]) ∧ Own w' w.heap.size (GInstr.d x) [.int .i64 x.op, .int .i64 x.a, .int .i64 x.b, .int .i64 x.c] h ∧ Below w.heap.size w w' := by
  go_enter Try.func49, Try.ntmps49
  go_wp2_with fail
  exact bodyPost_ret (v := .agg #[.int .i64 x.op, .int .i64 x.a, .int .i64 x.b, .int .i64 x.c]) (by simp [results, Try.results49, go_sem]) rfl ⟨[], rfl, ⟨GInstr.lay_, In.nil _, List.nodup_nil, (fun _ h => nomatch h)⟩, (Tri.start w _ _ _ _ _).below⟩
theorem infoInstrS : (Try.prog.info? 90).map (fun i => (i.zero, i.size, i.bytes)) = some (some ((.agg #[.int .i64 0, .int .i64 0, .int .i64 0, .int .i64 0])), 4, 32) := by kernel_rfl
set_option maxRecDepth 100000 in
set_option maxHeartbeats 1000000 in
theorem toInstrS (xs : List GInstr) (v : Value) (w : World) {e0 : Nat} (hv : Rd w (D.slice e0 4 (xs.map GInstr.d)) [v]) (hcn : D.cnt (D.slice 90 4 (xs.map GInstr.d)) ≤ 1048576) :
    Calls Try.prog 15 #[v] w fun e w' => ∃ A n cap h, e = .returned (.slice A n cap) ∧ Own w' w.heap.size (D.slice 90 4 (xs.map GInstr.d)) [.slice A n cap] h ∧ Below w.heap.size w w' := by
  rw [cnt_sl] at hcn
  obtain ⟨A, cap, rfl, hl, hel⟩ := GInstrs.open_ hv
  unfold maxLen at hl
  have HE := Lib.hid hel
  clear hel
  obtain ⟨Z, hZ, hmk⟩ := run_make_of (P := Try.prog) 33 90 _ 4 32 (by kernel_rfl) infoInstrS xs.length (by omega) (by omega)
  have f0 := Fill.start (w0 := w) (E := 90) (n := xs.length) (sz := 4) hZ
  clear hZ
  go_enter Try.func15, Try.ntmps15
  go_wp2_with fail
  go_loopg [4] xs.length (fun k i wr => ∃ (j : Nat) (h : Hp), k + j = xs.length ∧ i = .int .i64 j ∧ Fill w wr 90 4 xs.length ((xs.take j).map GInstr.d) h)
  case atStart => exact ⟨0, [], by omega, rfl, by rw [List.take_zero]; exact f0⟩
  case round =>
    obtain ⟨j, h, hk, rfl, f⟩ := hrel
    clear f0 hmk
    by_cases hlt : j < xs.length
    · have hcm := cnts_mem GInstr.d xs j hlt
      have hdl : ((xs.take j).map GInstr.d).length = j := by rw [List.length_map, List.length_take]; omega
      have hsn := Lib.hid (map_snoc GInstr.d xs j hlt)
      have HD := Lib.hid hdl
      clear hdl
      have F := Lib.hid f
      have hB := f.lt
      obtain ⟨q0, d0⟩ := f.cell0 j hlt (by omega)
      obtain ⟨q1, d1⟩ := f.cell j 1 hlt (by omega)
      obtain ⟨q2, d2⟩ := f.cell j 2 hlt (by omega)
      obtain ⟨q3, d3⟩ := f.cell j 3 hlt (by omega)
      have hfr := f.free
      obtain ⟨b, o, rfl, c0, c1, c2, c3⟩ := HE.out j hlt
      replace c0 := Below.cell' f.below c0
      replace c1 := Below.cell' f.below c1
      replace c2 := Below.cell' f.below c2
      replace c3 := Below.cell' f.below c3
      clear f
      go_wp2_with fail
      refine (toInstr xs[j]  _  (by omega)).mono ?_
      rintro e w1 ⟨g, rfl, ho, hb1⟩
      have HO := Lib.hid ho
      clear ho
      obtain ⟨hc, hf⟩ := bcell hb1
      go_wp2_with fail
      go_roundg (gk - 1)
      case measure => omega
      case rel =>
        refine ⟨j + 1, h ++ g, by omega, by go_num, ?_⟩
        have st := F.out.step HO.out hb1 (by rw [HD.out]; exact hlt) rfl
        rw [hsn.out, HD.out] at st
        exact st
    · have HD : (xs.take j).map GInstr.d = xs.map GInstr.d := by rw [List.take_of_length_le (by omega)]
      have F := Lib.hid f
      clear f
      have HD2 := Lib.hid HD
      clear HD
      go_wp2_with fail
      go_ret
      have f := F.out
      rw [HD2.out] at f
      obtain ⟨hp, ow⟩ := f.done (by rw [List.length_map]) (by unfold maxLen; omega)
      exact ⟨_, _, _, hp, rfl, ow, f.below⟩
theorem infoUint32S : (Try.prog.info? 151).map (fun i => (i.zero, i.size, i.bytes)) = some (some (.int .u32 0), 1, 4) := by kernel_rfl
set_option maxRecDepth 100000 in
set_option maxHeartbeats 1000000 in
theorem toUint32S (xs : List Int) (v : Value) (w : World) {e0 : Nat} (hv : Rd w (D.slice e0 1 (xs.map (D.int .u32))) [v]) (hcn : D.cnt (D.slice 151 1 (xs.map (D.int .u32))) ≤ 1048576) :
    Calls Try.prog 65 #[v] w fun e w' => ∃ A n cap h, e = .returned (.slice A n cap) ∧ Own w' w.heap.size (D.slice 151 1 (xs.map (D.int .u32))) [.slice A n cap] h ∧ Below w.heap.size w w' := by
  rw [cnt_sl] at hcn
  obtain ⟨A, cap, rfl, hl, hel⟩ := ints_open hv
  unfold maxLen at hl
  have HE := Lib.hid hel
  clear hel
  obtain ⟨Z, hZ, hmk⟩ := run_make_of (P := Try.prog) 46 151 _ 1 4 (by kernel_rfl) infoUint32S xs.length (by omega) (by omega)
  have f0 := Fill.start (w0 := w) (E := 151) (n := xs.length) (sz := 1) hZ
  clear hZ
  go_enter Try.func65, Try.ntmps65
  go_wp2_with fail
  go_loopg [4] xs.length (fun k i wr => ∃ (j : Nat) (h : Hp), k + j = xs.length ∧ i = .int .i64 j ∧ Fill w wr 151 1 xs.length ((xs.take j).map (D.int .u32)) h)
  case atStart => exact ⟨0, [], by omega, rfl, by rw [List.take_zero]; exact f0⟩
  case round =>
    obtain ⟨j, h, hk, rfl, f⟩ := hrel
    clear f0 hmk
    by_cases hlt : j < xs.length
    · have hcm := cnts_mem (D.int .u32) xs j hlt
      have hdl : ((xs.take j).map (D.int .u32)).length = j := by rw [List.length_map, List.length_take]; omega
      have hsn := Lib.hid (map_snoc (D.int .u32) xs j hlt)
      have HD := Lib.hid hdl
      clear hdl
      have F := Lib.hid f
      have hB := f.lt
      obtain ⟨q0, d0⟩ := f.cell0 j hlt (by omega)
      rw [Nat.mul_one] at d0
      have hfr := f.free
      obtain ⟨b, o, rfl, c0⟩ := HE.out j hlt
      replace c0 := Below.cell' f.below c0
      clear f
      go_wp2_with fail
      go_roundg (gk - 1)
      case measure => omega
      case rel =>
        refine ⟨j + 1, h ++ [], by omega, by go_num, ?_⟩
        have st := F.out.step (Own.int_ wr _ .u32 xs[j]) (Below.refl _ wr) (by rw [HD.out]; exact hlt) rfl
        rw [hsn.out, HD.out, Nat.mul_one] at st
        exact st
    · have HD : (xs.take j).map (D.int .u32) = xs.map (D.int .u32) := by rw [List.take_of_length_le (by omega)]
      have F := Lib.hid f
      clear f
      have HD2 := Lib.hid HD
      clear HD
      go_wp2_with fail
      go_ret
      have f := F.out
      rw [HD2.out] at f
      obtain ⟨hp, ow⟩ := f.done (by rw [List.length_map]) (by unfold maxLen; omega)
      exact ⟨_, _, _, hp, rfl, ow, f.below⟩
theorem infoInt64SS : (Try.prog.info? 63).map (fun i => (i.zero, i.size, i.bytes)) = some (some (.slice none 0 0), 1, 24) := by kernel_rfl
set_option maxRecDepth 100000 in
set_option maxHeartbeats 1000000 in
theorem toInt64SS (xs : List (List Int)) (v : Value) (w : World) {e0 : Nat} (hv : Rd w (D.slice e0 1 (xs.map (fun y : List Int => D.slice 2 1 (y.map (D.int .i64))))) [v]) (hcn : D.cnt (D.slice 63 1 (xs.map (fun y : List Int => D.slice 2 1 (y.map (D.int .i64))))) ≤ 1048576) :
    Calls Try.prog 61 #[v] w fun e w' => ∃ A n cap h, e = .returned (.slice A n cap) ∧ Own w' w.heap.size (D.slice 63 1 (xs.map (fun y : List Int => D.slice 2 1 (y.map (D.int .i64))))) [.slice A n cap] h ∧ Below w.heap.size w w' := by
  rw [cnt_sl] at hcn
  obtain ⟨A, cap, rfl, hl, hel⟩ := lists_open hv
  unfold maxLen at hl
  have HE := Lib.hid hel
  clear hel
  obtain ⟨Z, hZ, hmk⟩ := run_make_of (P := Try.prog) 40 63 _ 1 24 (by kernel_rfl) infoInt64SS xs.length (by omega) (by omega)
  have f0 := Fill.start (w0 := w) (E := 63) (n := xs.length) (sz := 1) hZ
  clear hZ
  go_enter Try.func61, Try.ntmps61
  go_wp2_with fail
  go_loopg [4] xs.length (fun k i wr => ∃ (j : Nat) (h : Hp), k + j = xs.length ∧ i = .int .i64 j ∧ Fill w wr 63 1 xs.length ((xs.take j).map (fun y : List Int => D.slice 2 1 (y.map (D.int .i64)))) h)
  case atStart => exact ⟨0, [], by omega, rfl, by rw [List.take_zero]; exact f0⟩
  case round =>
    obtain ⟨j, h, hk, rfl, f⟩ := hrel
    clear f0 hmk
    by_cases hlt : j < xs.length
    · have hcm := cnts_mem (fun y : List Int => D.slice 2 1 (y.map (D.int .i64))) xs j hlt
      have hdl : ((xs.take j).map (fun y : List Int => D.slice 2 1 (y.map (D.int .i64)))).length = j := by rw [List.length_map, List.length_take]; omega
      have hsn := Lib.hid (map_snoc (fun y : List Int => D.slice 2 1 (y.map (D.int .i64))) xs j hlt)
      have HD := Lib.hid hdl
      clear hdl
      have F := Lib.hid f
      have hB := f.lt
      obtain ⟨q0, d0⟩ := f.cell0 j hlt (by omega)
      rw [Nat.mul_one] at d0
      have hfr := f.free
      obtain ⟨b, o, A1, p1, rfl, c0, R1⟩ := HE.out j hlt
      replace c0 := Below.cell' f.below c0
      clear f
      go_wp2_with fail
      refine (toInt64S xs[j] _ _ (R1.below F.out.below) (by simp only [D.cnt] at hcm ⊢; omega)).mono ?_
      rintro e w1 ⟨B1, m1, t1, g, rfl, ho, hb1⟩
      have HO := Lib.hid ho
      clear ho
      obtain ⟨hc, hf⟩ := bcell hb1
      go_wp2_with fail
      go_roundg (gk - 1)
      case measure => omega
      case rel =>
        refine ⟨j + 1, h ++ g, by omega, by go_num, ?_⟩
        have st := F.out.step HO.out hb1 (by rw [HD.out]; exact hlt) rfl
        rw [hsn.out, HD.out, Nat.mul_one] at st
        exact st
    · have HD : (xs.take j).map (fun y : List Int => D.slice 2 1 (y.map (D.int .i64))) = xs.map (fun y : List Int => D.slice 2 1 (y.map (D.int .i64))) := by rw [List.take_of_length_le (by omega)]
      have F := Lib.hid f
      clear f
      have HD2 := Lib.hid HD
      clear HD
      go_wp2_with fail
      go_ret
      have f := F.out
      rw [HD2.out] at f
      obtain ⟨hp, ow⟩ := f.done (by rw [List.length_map]) (by unfold maxLen; omega)
      exact ⟨_, _, _, hp, rfl, ow, f.below⟩
set_option maxRecDepth 100000 in
set_option maxHeartbeats 2000000 in
theorem toConst (x : GConst) (w : World) (hcn : D.cnt (GConst.d x) ≤ 1048576) :
    Calls Try.prog 96 #[.agg #[.int .i64 x.ty, .int .u32 x.word]] w fun e w' => ∃ h, e = .returned (.agg #[.int .i64 x.ty, .int .u32 x.word]) ∧ Own w' w.heap.size (GConst.d x) [.int .i64 x.ty, .int .u32 x.word] h ∧ Below w.heap.size w w' := by
  go_enter Try.func96, Try.ntmps96
  go_wp2_with fail
  exact bodyPost_ret (v := .agg #[.int .i64 x.ty, .int .u32 x.word]) (by simp [results, Try.results96, go_sem]) rfl ⟨[], rfl, ⟨GConst.lay_, In.nil _, List.nodup_nil, (fun _ h => nomatch h)⟩, (Tri.start w _ _ _ _ _).below⟩
theorem infoConstS : (Try.prog.info? 154).map (fun i => (i.zero, i.size, i.bytes)) = some (some ((.agg #[.int .i64 0, .int .u32 0])), 2, 16) := by kernel_rfl
set_option maxRecDepth 100000 in
set_option maxHeartbeats 1000000 in
theorem toConstS (xs : List GConst) (v : Value) (w : World) {e0 : Nat} (hv : Rd w (D.slice e0 2 (xs.map GConst.d)) [v]) (hcn : D.cnt (D.slice 154 2 (xs.map GConst.d)) ≤ 1048576) :
    Calls Try.prog 62 #[v] w fun e w' => ∃ A n cap h, e = .returned (.slice A n cap) ∧ Own w' w.heap.size (D.slice 154 2 (xs.map GConst.d)) [.slice A n cap] h ∧ Below w.heap.size w w' := by
  rw [cnt_sl] at hcn
  obtain ⟨A, cap, rfl, hl, hel⟩ := GConsts.open_ hv
  unfold maxLen at hl
  have HE := Lib.hid hel
  clear hel
  obtain ⟨Z, hZ, hmk⟩ := run_make_of (P := Try.prog) 52 154 _ 2 16 (by kernel_rfl) infoConstS xs.length (by omega) (by omega)
  have f0 := Fill.start (w0 := w) (E := 154) (n := xs.length) (sz := 2) hZ
  clear hZ
  go_enter Try.func62, Try.ntmps62
  go_wp2_with fail
  go_loopg [4] xs.length (fun k i wr => ∃ (j : Nat) (h : Hp), k + j = xs.length ∧ i = .int .i64 j ∧ Fill w wr 154 2 xs.length ((xs.take j).map GConst.d) h)
  case atStart => exact ⟨0, [], by omega, rfl, by rw [List.take_zero]; exact f0⟩
  case round =>
    obtain ⟨j, h, hk, rfl, f⟩ := hrel
    clear f0 hmk
    by_cases hlt : j < xs.length
    · have hcm := cnts_mem GConst.d xs j hlt
      have hdl : ((xs.take j).map GConst.d).length = j := by rw [List.length_map, List.length_take]; omega
      have hsn := Lib.hid (map_snoc GConst.d xs j hlt)
      have HD := Lib.hid hdl
      clear hdl
      have F := Lib.hid f
      have hB := f.lt
      obtain ⟨q0, d0⟩ := f.cell0 j hlt (by omega)
      obtain ⟨q1, d1⟩ := f.cell j 1 hlt (by omega)
      have hfr := f.free
      obtain ⟨b, o, rfl, c0, c1⟩ := HE.out j hlt
      replace c0 := Below.cell' f.below c0
      replace c1 := Below.cell' f.below c1
      clear f
      go_wp2_with fail
      refine (toConst xs[j]  _  (by omega)).mono ?_
      rintro e w1 ⟨g, rfl, ho, hb1⟩
      have HO := Lib.hid ho
      clear ho
      obtain ⟨hc, hf⟩ := bcell hb1
      go_wp2_with fail
      go_roundg (gk - 1)
      case measure => omega
      case rel =>
        refine ⟨j + 1, h ++ g, by omega, by go_num, ?_⟩
        have st := F.out.step HO.out hb1 (by rw [HD.out]; exact hlt) rfl
        rw [hsn.out, HD.out] at st
        exact st
    · have HD : (xs.take j).map GConst.d = xs.map GConst.d := by rw [List.take_of_length_le (by omega)]
      have F := Lib.hid f
      clear f
      have HD2 := Lib.hid HD
      clear HD
      go_wp2_with fail
      go_ret
      have f := F.out
      rw [HD2.out] at f
      obtain ⟨hp, ow⟩ := f.done (by rw [List.length_map]) (by unfold maxLen; omega)
      exact ⟨_, _, _, hp, rfl, ow, f.below⟩
set_option maxRecDepth 100000 in
set_option maxHeartbeats 2000000 in
theorem toCert (x : GCert) (w : World) (hcn : D.cnt (GCert.d x) ≤ 1048576) :
    Calls Try.prog 98 #[.agg #[.int .i64 x.func, .int .i64 x.head, .int .i64 x.counter, .int .u32 x.init]] w fun e w' => ∃ h, e = .returned (.agg #[.int .i64 x.func, .int .i64 x.head, .int .i64 x.counter, .int .u32 x.init]) ∧ Own w' w.heap.size (GCert.d x) [.int .i64 x.func, .int .i64 x.head, .int .i64 x.counter, .int .u32 x.init] h ∧ Below w.heap.size w w' := by
  go_enter Try.func98, Try.ntmps98
  go_wp2_with fail
  exact bodyPost_ret (v := .agg #[.int .i64 x.func, .int .i64 x.head, .int .i64 x.counter, .int .u32 x.init]) (by simp [results, Try.results98, go_sem]) rfl ⟨[], rfl, ⟨GCert.lay_, In.nil _, List.nodup_nil, (fun _ h => nomatch h)⟩, (Tri.start w _ _ _ _ _).below⟩
theorem infoCertS : (Try.prog.info? 159).map (fun i => (i.zero, i.size, i.bytes)) = some (some ((.agg #[.int .i64 0, .int .i64 0, .int .i64 0, .int .u32 0])), 4, 32) := by kernel_rfl
set_option maxRecDepth 100000 in
set_option maxHeartbeats 1000000 in
theorem toCertS (xs : List GCert) (v : Value) (w : World) {e0 : Nat} (hv : Rd w (D.slice e0 4 (xs.map GCert.d)) [v]) (hcn : D.cnt (D.slice 159 4 (xs.map GCert.d)) ≤ 1048576) :
    Calls Try.prog 64 #[v] w fun e w' => ∃ A n cap h, e = .returned (.slice A n cap) ∧ Own w' w.heap.size (D.slice 159 4 (xs.map GCert.d)) [.slice A n cap] h ∧ Below w.heap.size w w' := by
  rw [cnt_sl] at hcn
  obtain ⟨A, cap, rfl, hl, hel⟩ := GCerts.open_ hv
  unfold maxLen at hl
  have HE := Lib.hid hel
  clear hel
  obtain ⟨Z, hZ, hmk⟩ := run_make_of (P := Try.prog) 54 159 _ 4 32 (by kernel_rfl) infoCertS xs.length (by omega) (by omega)
  have f0 := Fill.start (w0 := w) (E := 159) (n := xs.length) (sz := 4) hZ
  clear hZ
  go_enter Try.func64, Try.ntmps64
  go_wp2_with fail
  go_loopg [4] xs.length (fun k i wr => ∃ (j : Nat) (h : Hp), k + j = xs.length ∧ i = .int .i64 j ∧ Fill w wr 159 4 xs.length ((xs.take j).map GCert.d) h)
  case atStart => exact ⟨0, [], by omega, rfl, by rw [List.take_zero]; exact f0⟩
  case round =>
    obtain ⟨j, h, hk, rfl, f⟩ := hrel
    clear f0 hmk
    by_cases hlt : j < xs.length
    · have hcm := cnts_mem GCert.d xs j hlt
      have hdl : ((xs.take j).map GCert.d).length = j := by rw [List.length_map, List.length_take]; omega
      have hsn := Lib.hid (map_snoc GCert.d xs j hlt)
      have HD := Lib.hid hdl
      clear hdl
      have F := Lib.hid f
      have hB := f.lt
      obtain ⟨q0, d0⟩ := f.cell0 j hlt (by omega)
      obtain ⟨q1, d1⟩ := f.cell j 1 hlt (by omega)
      obtain ⟨q2, d2⟩ := f.cell j 2 hlt (by omega)
      obtain ⟨q3, d3⟩ := f.cell j 3 hlt (by omega)
      have hfr := f.free
      obtain ⟨b, o, rfl, c0, c1, c2, c3⟩ := HE.out j hlt
      replace c0 := Below.cell' f.below c0
      replace c1 := Below.cell' f.below c1
      replace c2 := Below.cell' f.below c2
      replace c3 := Below.cell' f.below c3
      clear f
      go_wp2_with fail
      refine (toCert xs[j]  _  (by omega)).mono ?_
      rintro e w1 ⟨g, rfl, ho, hb1⟩
      have HO := Lib.hid ho
      clear ho
      obtain ⟨hc, hf⟩ := bcell hb1
      go_wp2_with fail
      go_roundg (gk - 1)
      case measure => omega
      case rel =>
        refine ⟨j + 1, h ++ g, by omega, by go_num, ?_⟩
        have st := F.out.step HO.out hb1 (by rw [HD.out]; exact hlt) rfl
        rw [hsn.out, HD.out] at st
        exact st
    · have HD : (xs.take j).map GCert.d = xs.map GCert.d := by rw [List.take_of_length_le (by omega)]
      have F := Lib.hid f
      clear f
      have HD2 := Lib.hid HD
      clear HD
      go_wp2_with fail
      go_ret
      have f := F.out
      rw [HD2.out] at f
      obtain ⟨hp, ow⟩ := f.done (by rw [List.length_map]) (by unfold maxLen; omega)
      exact ⟨_, _, _, hp, rfl, ow, f.below⟩
set_option maxRecDepth 100000 in
set_option maxHeartbeats 2000000 in
theorem toFunc (x : GFunc) (A1 : Option Addr) (p1 : Nat) (A2 : Option Addr) (p2 : Nat) (A3 : Option Addr) (p3 : Nat) (w : World) (R1 : Rd w (D.slice 2 1 (x.params.map (D.int .i64))) [.slice A1 (x.params).length p1]) (R2 : Rd w (D.slice 2 1 (x.locals.map (D.int .i64))) [.slice A2 (x.locals).length p2]) (R3 : Rd w (D.slice 90 4 (x.code.map GInstr.d)) [.slice A3 (x.code).length p3]) (hcn : D.cnt (GFunc.d x) ≤ 1048576) :
    Calls Try.prog 97 #[.agg #[.slice A1 (x.params).length p1, .int .i64 x.result, .slice A2 (x.locals).length p2, .slice A3 (x.code).length p3]] w fun e w' => ∃ B1 m1 q1 B2 m2 q2 B3 m3 q3 h, e = .returned (.agg #[.slice B1 m1 q1, .int .i64 x.result, .slice B2 m2 q2, .slice B3 m3 q3]) ∧ Own w' w.heap.size (GFunc.d x) [.slice B1 m1 q1, .int .i64 x.result, .slice B2 m2 q2, .slice B3 m3 q3] h ∧ Below w.heap.size w w' := by
  rw [GFunc.cnt] at hcn
  go_enter Try.func97, Try.ntmps97
  go_wp2_with fail
  have T0 := Tri.start w #[.slice A1 (x.params).length p1, .int .i64 x.result, .slice A2 (x.locals).length p2, .slice A3 (x.code).length p3] #[.slice none 0 0, .int .i64 0, .slice none 0 0, .slice none 0 0] #[.slice none 0 0, .int .i64 0, .slice none 0 0, .slice none 0 0] 146 121
  refine (toInt64S x.params _ _ (R1.below T0.below) (by omega)).mono ?_
  rintro e w1 ⟨B1, m1, q1, g1, rfl, ho1, hb1⟩
  have T1 := T0.call ho1 hb1
  have L1 := Lib.hid ho1.lay
  clear ho1 hb1 T0
  have kx1 := T1.cellx (i := 1) rfl
  have kx2 := T1.cellx (i := 2) rfl
  have kt0 := T1.cell3 (i := 0) rfl
  have kt1 := T1.cell3 (i := 1) rfl
  have ft := T1.free3
  have HT1 := Lib.hid T1
  clear T1
  go_wp2_with fail
  clear kx1 kx2 kt0 kt1 ft
  have U1 := ((HT1.out.set3 0 (.slice B1 m1 q1)).set3 1 (.int .i64 x.result))
  refine (toInt64S x.locals _ _ (R2.below U1.below) (by omega)).mono ?_
  rintro e w2 ⟨B2, m2, q2, g2, rfl, ho2, hb2⟩
  have T2 := U1.call ho2 hb2
  have L2 := Lib.hid ho2.lay
  clear ho2 hb2 
  have kx3 := T2.cellx (i := 3) rfl
  have kt2 := T2.cell3 (i := 2) rfl
  have ft := T2.free3
  have HT2 := Lib.hid T2
  clear T2
  go_wp2_with fail
  clear kx3 kt2 ft
  have U2 := (HT2.out.set3 2 (.slice B2 m2 q2))
  refine (toInstrS x.code _ _ (R3.below U2.below) (by omega)).mono ?_
  rintro e w3 ⟨B3, m3, q3, g3, rfl, ho3, hb3⟩
  have T3 := U2.call ho3 hb3
  have L3 := Lib.hid ho3.lay
  clear ho3 hb3 
  have kt0 := T3.cell3 (i := 0) rfl
  have kt1 := T3.cell3 (i := 1) rfl
  have kt2 := T3.cell3 (i := 2) rfl
  have kt3 := T3.cell3 (i := 3) rfl
  have ft := T3.free3
  have kr0 := T3.cell2 (i := 0) rfl
  have kr1 := T3.cell2 (i := 1) rfl
  have kr2 := T3.cell2 (i := 2) rfl
  have kr3 := T3.cell2 (i := 3) rfl
  have fr := T3.free2
  have HT3 := Lib.hid T3
  clear T3
  go_wp2_with fail
  have TT := (((((HT3.out.set3 3 (.slice B3 m3 q3)).set2 0 (.slice B1 m1 q1)).set2 1 (.int .i64 x.result)).set2 2 (.slice B2 m2 q2)).set2 3 (.slice B3 m3 q3))
  refine bodyPost_ret (v := .agg #[.slice B1 m1 q1, .int .i64 x.result, .slice B2 m2 q2, .slice B3 m3 q3]) (by simp [results, Try.results97, go_sem, kt0, kt1, kt2, kt3, ft, kr0, kr1, kr2, kr3, fr]) rfl ?_
  exact ⟨_, _, _, _, _, _, _, _, _, _, rfl, ⟨by simpa only [List.nil_append, List.append_assoc] using GFunc.lay_ (x := x) L1.out L2.out L3.out, TT.in_, TT.nd, fun b hb => by have := TT.lo b hb; omega⟩, TT.below⟩
theorem infoFuncS : (Try.prog.info? 121).map (fun i => (i.zero, i.size, i.bytes)) = some (some ((.agg #[.slice none 0 0, .int .i64 0, .slice none 0 0, .slice none 0 0])), 4, 80) := by kernel_rfl
set_option maxRecDepth 100000 in
set_option maxHeartbeats 1000000 in
theorem toFuncS (xs : List GFunc) (v : Value) (w : World) {e0 : Nat} (hv : Rd w (D.slice e0 4 (xs.map GFunc.d)) [v]) (hcn : D.cnt (D.slice 121 4 (xs.map GFunc.d)) ≤ 1048576) :
    Calls Try.prog 63 #[v] w fun e w' => ∃ A n cap h, e = .returned (.slice A n cap) ∧ Own w' w.heap.size (D.slice 121 4 (xs.map GFunc.d)) [.slice A n cap] h ∧ Below w.heap.size w w' := by
  rw [cnt_sl] at hcn
  obtain ⟨A, cap, rfl, hl, hel⟩ := GFuncs.open_ hv
  unfold maxLen at hl
  have HE := Lib.hid hel
  clear hel
  obtain ⟨Z, hZ, hmk⟩ := run_make_of (P := Try.prog) 53 121 _ 4 80 (by kernel_rfl) infoFuncS xs.length (by omega) (by omega)
  have f0 := Fill.start (w0 := w) (E := 121) (n := xs.length) (sz := 4) hZ
  clear hZ
  go_enter Try.func63, Try.ntmps63
  go_wp2_with fail
  go_loopg [4] xs.length (fun k i wr => ∃ (j : Nat) (h : Hp), k + j = xs.length ∧ i = .int .i64 j ∧ Fill w wr 121 4 xs.length ((xs.take j).map GFunc.d) h)
  case atStart => exact ⟨0, [], by omega, rfl, by rw [List.take_zero]; exact f0⟩
  case round =>
    obtain ⟨j, h, hk, rfl, f⟩ := hrel
    clear f0 hmk
    by_cases hlt : j < xs.length
    · have hcm := cnts_mem GFunc.d xs j hlt
      have hdl : ((xs.take j).map GFunc.d).length = j := by rw [List.length_map, List.length_take]; omega
      have hsn := Lib.hid (map_snoc GFunc.d xs j hlt)
      have HD := Lib.hid hdl
      clear hdl
      have F := Lib.hid f
      have hB := f.lt
      obtain ⟨q0, d0⟩ := f.cell0 j hlt (by omega)
      obtain ⟨q1, d1⟩ := f.cell j 1 hlt (by omega)
      obtain ⟨q2, d2⟩ := f.cell j 2 hlt (by omega)
      obtain ⟨q3, d3⟩ := f.cell j 3 hlt (by omega)
      have hfr := f.free
      obtain ⟨b, o, A1, p1, A2, p2, A3, p3, rfl, c0, c1, c2, c3, R1, R2, R3⟩ := HE.out j hlt
      replace c0 := Below.cell' f.below c0
      replace c1 := Below.cell' f.below c1
      replace c2 := Below.cell' f.below c2
      replace c3 := Below.cell' f.below c3
      clear f
      go_wp2_with fail
      refine (toFunc xs[j] _ _ _ _ _ _ _ (R1.below F.out.below) (R2.below F.out.below) (R3.below F.out.below) (by omega)).mono ?_
      rintro e w1 ⟨B1, m1, t1, B2, m2, t2, B3, m3, t3, g, rfl, ho, hb1⟩
      have HO := Lib.hid ho
      clear ho
      obtain ⟨hc, hf⟩ := bcell hb1
      go_wp2_with fail
      go_roundg (gk - 1)
      case measure => omega
      case rel =>
        refine ⟨j + 1, h ++ g, by omega, by go_num, ?_⟩
        have st := F.out.step HO.out hb1 (by rw [HD.out]; exact hlt) rfl
        rw [hsn.out, HD.out] at st
        exact st
    · have HD : (xs.take j).map GFunc.d = xs.map GFunc.d := by rw [List.take_of_length_le (by omega)]
      have F := Lib.hid f
      clear f
      have HD2 := Lib.hid HD
      clear HD
      go_wp2_with fail
      go_ret
      have f := F.out
      rw [HD2.out] at f
      obtain ⟨hp, ow⟩ := f.done (by rw [List.length_map]) (by unfold maxLen; omega)
      exact ⟨_, _, _, hp, rfl, ow, f.below⟩
set_option maxRecDepth 100000 in
set_option maxHeartbeats 2000000 in
theorem toProgram (x : GProgram) (A1 : Option Addr) (p1 : Nat) (A2 : Option Addr) (p2 : Nat) (A3 : Option Addr) (p3 : Nat) (A4 : Option Addr) (p4 : Nat) (w : World) (R1 : Rd w (D.slice 63 1 (x.regions.map (fun y : List Int => D.slice 2 1 (y.map (D.int .i64))))) [.slice A1 (x.regions).length p1]) (R2 : Rd w (D.slice 154 2 (x.consts.map GConst.d)) [.slice A2 (x.consts).length p2]) (R3 : Rd w (D.slice 121 4 (x.funcs.map GFunc.d)) [.slice A3 (x.funcs).length p3]) (R4 : Rd w (D.slice 159 4 (x.certs.map GCert.d)) [.slice A4 (x.certs).length p4]) (hcn : D.cnt (GProgram.d x) ≤ 1048576) :
    Calls Try.prog 25 #[.agg #[.slice A1 (x.regions).length p1, .slice A2 (x.consts).length p2, .slice A3 (x.funcs).length p3, .slice A4 (x.certs).length p4]] w fun e w' => ∃ B1 m1 q1 B2 m2 q2 B3 m3 q3 B4 m4 q4 h, e = .returned (.agg #[.slice B1 m1 q1, .slice B2 m2 q2, .slice B3 m3 q3, .slice B4 m4 q4]) ∧ Own w' w.heap.size (GProgram.d x) [.slice B1 m1 q1, .slice B2 m2 q2, .slice B3 m3 q3, .slice B4 m4 q4] h ∧ Below w.heap.size w w' := by
  rw [GProgram.cnt] at hcn
  go_enter Try.func25, Try.ntmps25
  go_wp2_with fail
  have T0 := Tri.start w #[.slice A1 (x.regions).length p1, .slice A2 (x.consts).length p2, .slice A3 (x.funcs).length p3, .slice A4 (x.certs).length p4] #[.slice none 0 0, .slice none 0 0, .slice none 0 0, .slice none 0 0] #[.slice none 0 0, .slice none 0 0, .slice none 0 0, .slice none 0 0] 45 56
  refine (toInt64SS x.regions _ _ (R1.below T0.below) (by omega)).mono ?_
  rintro e w1 ⟨B1, m1, q1, g1, rfl, ho1, hb1⟩
  have T1 := T0.call ho1 hb1
  have L1 := Lib.hid ho1.lay
  clear ho1 hb1 T0
  have kx1 := T1.cellx (i := 1) rfl
  have kt0 := T1.cell3 (i := 0) rfl
  have ft := T1.free3
  have HT1 := Lib.hid T1
  clear T1
  go_wp2_with fail
  clear kx1 kt0 ft
  have U1 := (HT1.out.set3 0 (.slice B1 m1 q1))
  refine (toConstS x.consts _ _ (R2.below U1.below) (by omega)).mono ?_
  rintro e w2 ⟨B2, m2, q2, g2, rfl, ho2, hb2⟩
  have T2 := U1.call ho2 hb2
  have L2 := Lib.hid ho2.lay
  clear ho2 hb2 
  have kx2 := T2.cellx (i := 2) rfl
  have kt1 := T2.cell3 (i := 1) rfl
  have ft := T2.free3
  have HT2 := Lib.hid T2
  clear T2
  go_wp2_with fail
  clear kx2 kt1 ft
  have U2 := (HT2.out.set3 1 (.slice B2 m2 q2))
  refine (toFuncS x.funcs _ _ (R3.below U2.below) (by omega)).mono ?_
  rintro e w3 ⟨B3, m3, q3, g3, rfl, ho3, hb3⟩
  have T3 := U2.call ho3 hb3
  have L3 := Lib.hid ho3.lay
  clear ho3 hb3 
  have kx3 := T3.cellx (i := 3) rfl
  have kt2 := T3.cell3 (i := 2) rfl
  have ft := T3.free3
  have HT3 := Lib.hid T3
  clear T3
  go_wp2_with fail
  clear kx3 kt2 ft
  have U3 := (HT3.out.set3 2 (.slice B3 m3 q3))
  refine (toCertS x.certs _ _ (R4.below U3.below) (by omega)).mono ?_
  rintro e w4 ⟨B4, m4, q4, g4, rfl, ho4, hb4⟩
  have T4 := U3.call ho4 hb4
  have L4 := Lib.hid ho4.lay
  clear ho4 hb4 
  have kt0 := T4.cell3 (i := 0) rfl
  have kt1 := T4.cell3 (i := 1) rfl
  have kt2 := T4.cell3 (i := 2) rfl
  have kt3 := T4.cell3 (i := 3) rfl
  have ft := T4.free3
  have kr0 := T4.cell2 (i := 0) rfl
  have kr1 := T4.cell2 (i := 1) rfl
  have kr2 := T4.cell2 (i := 2) rfl
  have kr3 := T4.cell2 (i := 3) rfl
  have fr := T4.free2
  have HT4 := Lib.hid T4
  clear T4
  go_wp2_with fail
  have TT := (((((HT4.out.set3 3 (.slice B4 m4 q4)).set2 0 (.slice B1 m1 q1)).set2 1 (.slice B2 m2 q2)).set2 2 (.slice B3 m3 q3)).set2 3 (.slice B4 m4 q4))
  refine bodyPost_ret (v := .agg #[.slice B1 m1 q1, .slice B2 m2 q2, .slice B3 m3 q3, .slice B4 m4 q4]) (by simp [results, Try.results25, go_sem, kt0, kt1, kt2, kt3, ft, kr0, kr1, kr2, kr3, fr]) rfl ?_
  exact ⟨_, _, _, _, _, _, _, _, _, _, _, _, _, rfl, ⟨by simpa only [List.nil_append, List.append_assoc] using GProgram.lay_ (x := x) L1.out L2.out L3.out L4.out, TT.in_, TT.nd, fun b hb => by have := TT.lo b hb; omega⟩, TT.below⟩
set_option maxRecDepth 100000 in
set_option maxHeartbeats 2000000 in
theorem toMemory (x : GMemory) (A1 : Option Addr) (p1 : Nat) (A2 : Option Addr) (p2 : Nat) (A3 : Option Addr) (p3 : Nat) (w : World) (R1 : Rd w (D.slice 151 1 (x.inn.map (D.int .u32))) [.slice A1 (x.inn).length p1]) (R2 : Rd w (D.slice 151 1 (x.out.map (D.int .u32))) [.slice A2 (x.out).length p2]) (R3 : Rd w (D.slice 151 1 (x.keep.map (D.int .u32))) [.slice A3 (x.keep).length p3]) (hcn : D.cnt (GMemory.d x) ≤ 1048576) :
    Calls Try.prog 26 #[.agg #[.slice A1 (x.inn).length p1, .slice A2 (x.out).length p2, .slice A3 (x.keep).length p3]] w fun e w' => ∃ B1 m1 q1 B2 m2 q2 B3 m3 q3 h, e = .returned (.agg #[.slice B1 m1 q1, .slice B2 m2 q2, .slice B3 m3 q3]) ∧ Own w' w.heap.size (GMemory.d x) [.slice B1 m1 q1, .slice B2 m2 q2, .slice B3 m3 q3] h ∧ Below w.heap.size w w' := by
  rw [GMemory.cnt] at hcn
  go_enter Try.func26, Try.ntmps26
  go_wp2_with fail
  have T0 := Tri.start w #[.slice A1 (x.inn).length p1, .slice A2 (x.out).length p2, .slice A3 (x.keep).length p3] #[.slice none 0 0, .slice none 0 0, .slice none 0 0] #[.slice none 0 0, .slice none 0 0, .slice none 0 0] 48 58
  refine (toUint32S x.inn _ _ (R1.below T0.below) (by omega)).mono ?_
  rintro e w1 ⟨B1, m1, q1, g1, rfl, ho1, hb1⟩
  have T1 := T0.call ho1 hb1
  have L1 := Lib.hid ho1.lay
  clear ho1 hb1 T0
  have kx1 := T1.cellx (i := 1) rfl
  have kt0 := T1.cell3 (i := 0) rfl
  have ft := T1.free3
  have HT1 := Lib.hid T1
  clear T1
  go_wp2_with fail
  clear kx1 kt0 ft
  have U1 := (HT1.out.set3 0 (.slice B1 m1 q1))
  refine (toUint32S x.out _ _ (R2.below U1.below) (by omega)).mono ?_
  rintro e w2 ⟨B2, m2, q2, g2, rfl, ho2, hb2⟩
  have T2 := U1.call ho2 hb2
  have L2 := Lib.hid ho2.lay
  clear ho2 hb2 
  have kx2 := T2.cellx (i := 2) rfl
  have kt1 := T2.cell3 (i := 1) rfl
  have ft := T2.free3
  have HT2 := Lib.hid T2
  clear T2
  go_wp2_with fail
  clear kx2 kt1 ft
  have U2 := (HT2.out.set3 1 (.slice B2 m2 q2))
  refine (toUint32S x.keep _ _ (R3.below U2.below) (by omega)).mono ?_
  rintro e w3 ⟨B3, m3, q3, g3, rfl, ho3, hb3⟩
  have T3 := U2.call ho3 hb3
  have L3 := Lib.hid ho3.lay
  clear ho3 hb3 
  have kt0 := T3.cell3 (i := 0) rfl
  have kt1 := T3.cell3 (i := 1) rfl
  have kt2 := T3.cell3 (i := 2) rfl
  have ft := T3.free3
  have kr0 := T3.cell2 (i := 0) rfl
  have kr1 := T3.cell2 (i := 1) rfl
  have kr2 := T3.cell2 (i := 2) rfl
  have fr := T3.free2
  have HT3 := Lib.hid T3
  clear T3
  go_wp2_with fail
  have TT := ((((HT3.out.set3 2 (.slice B3 m3 q3)).set2 0 (.slice B1 m1 q1)).set2 1 (.slice B2 m2 q2)).set2 2 (.slice B3 m3 q3))
  refine bodyPost_ret (v := .agg #[.slice B1 m1 q1, .slice B2 m2 q2, .slice B3 m3 q3]) (by simp [results, Try.results26, go_sem, kt0, kt1, kt2, ft, kr0, kr1, kr2, fr]) rfl ?_
  exact ⟨_, _, _, _, _, _, _, _, _, _, rfl, ⟨by simpa only [List.nil_append, List.append_assoc] using GMemory.lay_ (x := x) L1.out L2.out L3.out, TT.in_, TT.nd, fun b hb => by have := TT.lo b hb; omega⟩, TT.below⟩
end Go.Proofs.Ytedlhhhfifdnfaa
