/- StmtFault's walks: the copy of the statements. -/
import Derived.Test.YtedlhhhfifdnfaaProg
import Derived.Test.YtedlhhhfifdnfaaStP
import Derived.Test.YtedlhhhfifdnfaaFill
import Derived.WalkKit
import Derived.Outline
import Derived.Deep.LoopGhost
import Derived.Deep.OwnRows
import Derived.KernelRfl
import Derived.IntWalk
import Derived.Lib.Hide
set_option linter.unusedVariables false
set_option linter.unusedSimpArgs false
namespace Go.Proofs.Ytedlhhhfifdnfaa
open Go.RowKit

theorem St.lay {e : Nat} {s : St} {u1 u2 : Value} {h1 h2 : Hp} (a : Lay (.slice e 5 (St.ds e s.body)) [u1] h1) (b : Lay (.slice e 5 (St.ds e s.els)) [u2] h2) :
    Lay (St.d e s) [.int .i64 s.kind, .int .i64 s.a, .int .i64 s.b, u1, u2] (h1 ++ h2) := by
  cases s with
  | mk k x y p q =>
    simp only [St.d]
    exact Lay.agg_ (LayAll.int_ (LayAll.int_ (LayAll.int_ (LayAll.sl_ a (LayAll.slast b)))))

def ToS (n : Nat) : Prop := ∀ (xs : List St), St.dps xs ≤ n → ∀ (e : Nat) (v : Value) (w : World), Rd w (.slice e 5 (St.ds e xs)) [v] → St.cnts xs ≤ 1048576 →
    Calls Try.prog 10 #[v] w fun e w' => ∃ A n cap h, e = .returned (.slice A n cap) ∧ Own w' w.heap.size (.slice 81 5 (St.ds 81 xs)) [.slice A n cap] h ∧ Below w.heap.size w w'

set_option maxHeartbeats 600000 in
theorem toE (n : Nat) (ih : ToS n) (s : St) (hs : St.dp s ≤ n + 1) (hcn : St.cnt s ≤ 1048576) (e : Nat) (v1 v2 : Value) (w : World) (H1 : Rd w (.slice e 5 (St.ds e s.body)) [v1]) (H2 : Rd w (.slice e 5 (St.ds e s.els)) [v2]) :
    Calls Try.prog 44 #[.agg #[.int .i64 s.kind, .int .i64 s.a, .int .i64 s.b, v1, v2]] w fun e w' => ∃ A1 m1 p1 A2 m2 p2 h, e = .returned (.agg #[.int .i64 s.kind, .int .i64 s.a, .int .i64 s.b, .slice A1 m1 p1, .slice A2 m2 p2]) ∧
      Own w' w.heap.size (St.d 81 s) [.int .i64 s.kind, .int .i64 s.a, .int .i64 s.b, .slice A1 m1 p1, .slice A2 m2 p2] h ∧ Below w.heap.size w w' := by
  have k1 := dp_body s
  have k2 := dp_els s
  have k3 := Lib.hid (cnt_eq s)
  have HI := Lib.hid ih
  clear ih
  go_enter Try.func44, Try.ntmps44
  go_wp2_with fail
  refine (HI.out s.body (by omega) e _ _ (H1.below (by repeat' first | exact Below.refl _ _ | apply below_new)) (by have := k3.out; omega)).mono ?_
  rintro e w1 ⟨A1, m1, p1, g1, rfl, ho1, hb1⟩
  obtain ⟨hc, hf⟩ := bcell hb1
  have HO1 := Lib.hid ho1
  clear ho1
  obtain ⟨hz1, hy1, hx1⟩ : w.heap.size + 2 < w1.heap.size ∧ w.heap.size + 1 < w1.heap.size ∧ w.heap.size < w1.heap.size := by have := hb1.size; simp at this; omega
  have hb1' : Below w.heap.size w w1 := below_all (by repeat' first | exact Below.refl _ _ | apply below_new) hb1
  go_wp2_with fail
  refine (HI.out s.els (by omega) e _ _ (H2.below (below_set hb1' (by simp <;> omega) _)) (by have := k3.out; omega)).mono ?_
  rintro e w2 ⟨A2, m2, p2, g2, rfl, ho2, hb2⟩
  obtain ⟨hc2, hf2⟩ := bcell hb2
  have HO2 := Lib.hid ho2
  clear ho2
  obtain ⟨hz2, hy2, hx2⟩ : w.heap.size + 2 < w2.heap.size ∧ w.heap.size + 1 < w2.heap.size ∧ w.heap.size < w2.heap.size := by have := hb2.size; simp at this; omega
  go_wp2_with fail
  refine bodyPost_ret (v := .agg #[.int .i64 s.kind, .int .i64 s.a, .int .i64 s.b, .slice A1 m1 p1, .slice A2 m2 p2]) (by simp [results, Try.results44, go_sem, hc2, hc, hz1, hy1, hx1, hz2, hy2, hx2]) rfl ?_
  refine ⟨_, _, _, _, _, _, g1 ++ g2, rfl, ?_, ?_⟩
  · refine Own.two HO1.out HO2.out (HO1.out.keep ?_).in_ (HO2.out.keep ?_).in_ (by simp) (by simp <;> omega) (by simp <;> omega) (St.lay HO1.out.lay HO2.out.lay)
    · iterate 6 refine Upd.setCell ?_ (.inl (by simp <;> omega)) _
      exact ((Upd.refl _ _).setCell (.inl (by simp <;> omega)) _).then_below hb2
    · iterate 6 refine Upd.setCell ?_ (.inl (by simp <;> omega)) _
      exact Upd.refl _ _
  · iterate 6 refine below_set ?_ (by simp <;> omega) _
    exact below_all (below_set hb1' (by simp <;> omega) _) hb2

theorem infoSt : (Try.prog.info? 81).map (fun i => (i.zero, i.size, i.bytes)) = some (some (.agg #[.int .i64 0, .int .i64 0, .int .i64 0, .slice none 0 0, .slice none 0 0]), 5, 72) := by kernel_rfl
theorem cnt_mem : ∀ {xs : List St} {j : Nat} (h : j < xs.length), St.cnt xs[j] ≤ St.cnts xs
  | s :: r, 0, _ => by simp only [List.getElem_cons_zero, St.cnts]; omega
  | s :: r, j + 1, h => by
    have := cnt_mem (xs := r) (j := j) (by simpa using h)
    simp only [List.getElem_cons_succ, St.cnts]
    omega
theorem ds_snoc (e : Nat) (xs : List St) (j : Nat) (h : j < xs.length) : St.ds e (xs.take j) ++ [St.d e xs[j]] = St.ds e (xs.take (j + 1)) := by
  rw [ds_eq, ds_eq, List.take_succ_eq_append_getElem h, List.map_append]; rfl
set_option maxHeartbeats 1000000 in
theorem toS (n : Nat) (IH : ∀ m, m + 1 = n → ToS m) : ToS n := by
  intro xs hn e v w hv hcn
  obtain ⟨A, cap, rfl, hl, hel⟩ := Sts.open_ hv
  unfold maxLen at hl
  have HE := Lib.hid hel
  clear hel
  have hlen := cnts_d e xs
  obtain ⟨Z, hZ, hmk⟩ := run_make_of (P := Try.prog) 25 81 _ 5 72 (by kernel_rfl) infoSt xs.length (by omega) (by omega)
  have f0 := Fill.start (w0 := w) (E := 81) (n := xs.length) (sz := 5) hZ
  have HL := Lib.hid hlen
  clear hlen hZ
  go_enter Try.func10, Try.ntmps10
  go_wp2_with fail
  go_loopg [4] xs.length (fun k i wr => ∃ (j : Nat) (h : Hp), k + j = xs.length ∧ i = .int .i64 j ∧ Fill w wr 81 5 xs.length (St.ds 81 (xs.take j)) h)
  case atStart => exact ⟨0, [], by omega, rfl, by rw [List.take_zero]; exact f0⟩
  case round =>
    obtain ⟨j, h, hk, rfl, f⟩ := hrel
    clear f0 hmk
    by_cases hlt : j < xs.length
    · obtain ⟨b, o, v1, v2, rfl, c0, c1, c2, c3, c4, H1, H2⟩ := HE.out j hlt
      have he := Lib.hid (cnt_eq xs[j])
      have hmem := dp_mem (List.getElem_mem hlt)
      have c0 := Below.cell' f.below c0
      have c1 := Below.cell' f.below c1
      have c2 := Below.cell' f.below c2
      have c3 := Below.cell' f.below c3
      have c4 := Below.cell' f.below c4
      cases n with
      | zero => exact absurd hn (by have := dp_body xs[j]; omega)
      | succ n =>
        have hdl : (St.ds 81 (xs.take j)).length = j := by rw [ds_len, List.length_take]; omega
        have hsn := Lib.hid (ds_snoc 81 xs j hlt)
        have F := Lib.hid f
        have hB := f.lt
        obtain ⟨q0, d0⟩ := f.cell0 j hlt (by omega)
        obtain ⟨q1, d1⟩ := f.cell j 1 hlt (by omega)
        obtain ⟨q2, d2⟩ := f.cell j 2 hlt (by omega)
        obtain ⟨q3, d3⟩ := f.cell j 3 hlt (by omega)
        obtain ⟨q4, d4⟩ := f.cell j 4 hlt (by omega)
        have hfr := f.free
        clear f
        have HD := Lib.hid hdl
        clear hdl
        go_wp2_with fail
        refine (toE n (IH n rfl) xs[j] (by omega) (by have := cnt_mem hlt; omega) e v1 v2 _ (H1.below F.out.below) (H2.below F.out.below)).mono ?_
        rintro e w1 ⟨A1, m1, p1, A2, m2, p2, g, rfl, ho, hb1⟩
        have HO := Lib.hid ho
        clear ho
        obtain ⟨hc, hf⟩ := bcell hb1
        go_wp2_with fail
        go_roundg (gk - 1)
        case measure => omega
        case rel =>
          refine ⟨j + 1, h ++ g, by omega, by go_num, ?_⟩
          have st := F.out.step HO.out hb1 (by rw [HD.out]; exact hlt) rfl
          rw [hsn.out, HD.out] at st
          exact st
    · have HD : (St.ds 81 (xs.take j)) = St.ds 81 xs := by rw [List.take_of_length_le (by omega)]
      have F := Lib.hid f
      clear f
      have HD2 := Lib.hid HD
      clear HD
      go_wp2_with fail
      go_ret
      have f := F.out
      rw [HD2.out] at f
      obtain ⟨hp, ow⟩ := f.done (by rw [ds_len]) (by unfold maxLen; omega)
      exact ⟨_, _, _, hp, rfl, ow, f.below⟩
theorem toS_all : ∀ n, ToS n
  | 0 => toS 0 (fun m h => by omega)
  | n + 1 => toS (n + 1) (fun m h => (Nat.succ.inj h).symm ▸ toS_all n)
end Go.Proofs.Ytedlhhhfifdnfaa
