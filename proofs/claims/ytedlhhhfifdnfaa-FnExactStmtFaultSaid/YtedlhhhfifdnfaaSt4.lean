/- StmtFault's walks: the reference's own. -/
import Derived.Test.YtedlhhhfifdnfaaProg
import Derived.Test.YtedlhhhfifdnfaaStP
import Derived.WalkKit
import Derived.Outline
import Derived.Deep.LoopGhost
import Derived.Deep.DeepCutAuto
import Derived.Deep.CutBlock
import Derived.Deep.Light
import Derived.StillTailTactics
import Derived.KernelRfl
import Derived.IntWalk
import Derived.Lib.Hide
set_option linter.unusedVariables false
set_option linter.unusedSimpArgs false
namespace Go.Proofs.Ytedlhhhfifdnfaa
open Go.RowKit

theorem below_all' {w0 w wc : World} {bl : Nat} (hw : Below w0.heap.size w0 w) (hu : Upd (fun k => k = bl) w wc) (hbl : w0.heap.size ≤ bl) : Below w0.heap.size w0 wc := hw.trans (hu.below hw.size (fun k e => e ▸ hbl))
theorem oks_drop (xs : List St) (j : Nat) (h : j < xs.length) : St.oks (xs.drop j) = (St.ok xs[j] && St.oks (xs.drop (j + 1))) := by
  rw [List.drop_eq_getElem_cons h, St.oks]
theorem ok_eq (s : St) : St.ok s = (St.fits s && St.oks s.body && St.oks s.els) := by cases s; rfl

/-- What the walk knows where a statement's own fit has been told. -/
structure WkMid (w wr : World) (s : St) (bl ol : Nat) (q : Int) (A1 A2 : Option Addr) (p1 p2 : Nat) (wc : World) : Prop where
  upd : Upd (fun k => k = bl) w wc
  cell : wc.cell? ⟨bl, ol, none⟩ = some (.int .i64 (q - 1))
  free : wc.frozen? ⟨bl, ol, none⟩ = false
  c0 : wc.cell? ⟨wr.heap.size, 0, none⟩ = some (.int .i64 s.kind)
  c1 : wc.cell? ⟨wr.heap.size, 1, none⟩ = some (.int .i64 s.a)
  c2 : wc.cell? ⟨wr.heap.size, 2, none⟩ = some (.int .i64 s.b)
  c3 : wc.cell? ⟨wr.heap.size, 3, none⟩ = some (.slice A1 s.body.length p1)
  c4 : wc.cell? ⟨wr.heap.size, 4, none⟩ = some (.slice A2 s.els.length p2)
  size : wr.heap.size < wc.heap.size

theorem wkMid {w wr : World} {s : St} {bl ol : Nat} {q : Int} {A1 A2 : Option Addr} {p1 p2 : Nat} {e : Nat} (hu : Upd (fun k => k = bl) w wr) (hc : wr.cell? ⟨bl, ol, none⟩ = some (.int .i64 q)) (hf : wr.frozen? ⟨bl, ol, none⟩ = false) :
    WkMid w wr s bl ol q A1 A2 p1 p2 ((wr.setCell ⟨bl, ol, none⟩ (.int .i64 (q - 1))).alloc (.cells #[.int .i64 s.kind, .int .i64 s.a, .int .i64 s.b, .slice A1 s.body.length p1, .slice A2 s.els.length p2] e)) := by
  have hbs : bl < wr.heap.size := World.block_lt_of_cell? wr _ hc
  exact ⟨(hu.setCell (.inl rfl) _).alloc _, by simp [go_sem, hc, hf, hbs], by simp [go_sem, hc, hf, hbs], by simp [go_sem, hc, hf, hbs], by simp [go_sem, hc, hf, hbs], by simp [go_sem, hc, hf, hbs], by simp [go_sem, hc, hf, hbs], by simp [go_sem, hc, hf, hbs], by simp⟩

def WkS (n : Nat) : Prop := ∀ (xs : List St), St.dps xs ≤ n → ∀ (e : Nat) (v : Value) (w0 w : World) (bl ol : Nat) (c : Int), Rd w0 (.slice e 5 (St.ds e xs)) [v] → Below w0.heap.size w0 w → w0.heap.size ≤ bl →
    w.cell? ⟨bl, ol, none⟩ = some (.int .i64 c) → w.frozen? ⟨bl, ol, none⟩ = false → c ≤ 1000 → (St.cnts xs : Int) ≤ c + 2000000 →
    Calls Try.prog 42 #[v, .pointer (some ⟨bl, ol, none⟩)] w fun e w' => ∃ c', e = .returned (.bool (St.oks xs)) ∧ Upd (fun k => k = bl) w w' ∧ w'.cell? ⟨bl, ol, none⟩ = some (.int .i64 c') ∧ w'.frozen? ⟨bl, ol, none⟩ = false ∧ (St.oks xs = true → c' = c - St.cnts xs)

set_option maxRecDepth 100000 in
set_option maxHeartbeats 1000000 in
theorem wkS (n : Nat) (IH : ∀ m, m + 1 = n → WkS m) : WkS n := by
  intro xs hn e v w0 w bl ol c hv hw hbl hcell hfree hc1 hc2
  obtain ⟨A, cap, rfl, hl, hel⟩ := Sts.open2 hv
  unfold maxLen at hl
  have HE := Lib.hid hel
  clear hel
  go_enter Try.func42, Try.ntmps42
  go_wp2_with fail
  go_loopg [5] xs.length (fun k i wr => ∃ (j : Nat) (q : Int), k + j = xs.length ∧ i = .int .i64 j ∧ Upd (fun k => k = bl) w wr ∧ wr.cell? ⟨bl, ol, none⟩ = some (.int .i64 q) ∧ wr.frozen? ⟨bl, ol, none⟩ = false ∧
    Hid (St.oks xs = St.oks (xs.drop j)) ∧ Hid (q + St.cnts xs = c + St.cnts (xs.drop j)))
  case atStart => exact ⟨0, c, by omega, rfl, Upd.refl _ _, hcell, hfree, by unfold Hid; rw [List.drop_zero], by unfold Hid; rw [List.drop_zero]⟩
  case round =>
    obtain ⟨j, q, hk, rfl, hu, hq, hfr, hr1, hr2⟩ := hrel
    clear hcell hfree
    have hb : Below w0.heap.size w0 wr := hw.trans (hu.below hw.size (fun k e => e ▸ hbl))
    have hbs : bl < wr.heap.size := World.block_lt_of_cell? wr _ hq
    by_cases hlt : j < xs.length
    · obtain ⟨b, o, A1, p1, A2, p2, rfl, c0, c1, c2, c3, c4, H1, H2⟩ := HE.out j hlt
      have hmem := dp_mem (List.getElem_mem hlt)
      replace c0 := Below.cell' hb c0
      replace c1 := Below.cell' hb c1
      replace c2 := Below.cell' hb c2
      replace c3 := Below.cell' hb c3
      replace c4 := Below.cell' hb c4
      cases n with
      | zero => exact absurd hn (by have := dp_body xs[j]; omega)
      | succ n =>
        have hq1 : -3000000 ≤ q ∧ q ≤ 1000 := by
          have h1 := hr2.out
          have h2 := cnts_drop_le xs j
          omega
        obtain ⟨hqa, hqb⟩ := hq1
        have HU := Lib.hid hu
        have HI := Lib.hid (IH n rfl)
        clear IH
        clear hu
        go_upto_region 5 with (fail)
        go_cut [6] (fun v6 wc => v6 = .pointer (some ⟨wr.heap.size, 0, none⟩) ∧ WkMid w wr xs[j] bl ol q A1 A2 p1 p2 wc)
        case first =>
          go_wp2_with fail
          go_meet
          exact ⟨rfl, wkMid HU.out hq hfr⟩
        case rest =>
          obtain ⟨rfl, M⟩ := hcut
          clear c0 c1 c2 c3 c4 hq hfr HU
          obtain ⟨c0, c1, c2, c3, c4⟩ := And.intro M.c0 (And.intro M.c1 (And.intro M.c2 (And.intro M.c3 M.c4)))
          have HM := Lib.hid M
          clear M
          go_upto_block 2 with (fail)
          go_cut [7] (fun v7 w2 => v7 = .bool (St.fits xs[j]) ∧ wc = w2)
          case first =>
            clear HM HI HE hr1 hr2 hb hw hv H1 H2
            go_wp2_with fail
            all_goals
              go_meet
              refine ⟨congrArg Value.bool ?_, rfl⟩
              clear c0 c1 c2 c3 c4
              go_light
              simp [St.fits, *] <;> intros <;> omega
          case rest =>
            obtain ⟨rfl, rfl⟩ := hcut
            have M := HM.out
            have hbW := below_all' hw M.upd hbl
            have hok := Lib.hid (ok_eq xs[j])
            have hdr := Lib.hid (oks_drop xs j hlt)
            have hcd := Lib.hid (cnts_drop' xs j hlt)
            have hce := Lib.hid (cnt_eq xs[j])
            have db := dp_body xs[j]
            have de := dp_els xs[j]
            have hcm := cnts_drop_le xs j
            have hcp := M.cell
            have hfp := M.free
            have hsz := M.size
            clear M
            have hr1' := Lib.hid hr1
            have hr2' := Lib.hid hr2
            cases hfit : St.fits xs[j] with
            | false =>
              go_wp2_with fail
              go_ret
              refine ⟨_, congrArg Ending.returned (congrArg Value.bool ?_), HM.out.upd, hcp, hfp, fun hx => ?_⟩
              · rw [hr1'.out.out, hdr.out, hok.out, hfit]; rfl
              · rw [hr1'.out.out, hdr.out, hok.out, hfit] at hx; exact absurd hx (by simp)
            | true =>
              go_wp2_with fail
              refine (HI.out xs[j].body (by omega) e _ w0 _ bl ol (q - 1) H1 hbW hbl hcp hfp (by omega) (by have := hce.out; have := hcd.out; have := hr2'.out.out; omega)).mono ?_
              rintro e1 w1 ⟨q1, rfl, hu1, hcq, hfq, hq1⟩
              have HU1 := Lib.hid hu1
              have HQ1 := Lib.hid hq1
              clear hu1 hq1
              cases hob : St.oks xs[j].body with
              | false =>
                go_wp2_with fail
                go_ret
                refine ⟨_, congrArg Ending.returned (congrArg Value.bool ?_), HM.out.upd.trans' HU1.out, hcq, hfq, fun hx => ?_⟩
                · rw [hr1'.out.out, hdr.out, hok.out, hfit, hob]; rfl
                · rw [hr1'.out.out, hdr.out, hok.out, hfit, hob] at hx; exact absurd hx (by simp)
              | true =>
                have c41 : w1.cell? ⟨wr.heap.size, 4, none⟩ = some (.slice A2 xs[j].els.length p2) := HU1.out.cell c4 (by show ¬ (wr.heap.size = bl); omega)
                have e1 := HQ1.out hob
                have hbd : q1 ≤ 1000 ∧ (St.cnts xs[j].els : Int) ≤ q1 + 2000000 := ⟨by omega, by have := hce.out; have := hcd.out; have := hr2'.out.out; omega⟩
                have E1 := Lib.hid e1
                clear e1
                obtain ⟨hbd1, hbd2⟩ := hbd
                have hbW1 : Below w0.heap.size w0 w1 := below_all' hw (HM.out.upd.trans' HU1.out) hbl
                clear hcp hfp c0 c1 c2 c3 c4
                go_wp2_with fail
                refine (HI.out xs[j].els (by omega) e _ w0 _ bl ol q1 H2 hbW1 hbl hcq hfq (by omega) hbd2).mono ?_
                rintro e1 w2 ⟨q2, rfl, hu2, hcq2, hfq2, hq2⟩
                have HU2 := Lib.hid hu2
                have HQ2 := Lib.hid hq2
                clear hu2 hq2
                cases hoe : St.oks xs[j].els with
                | false =>
                  go_wp2_with fail
                  go_ret
                  refine ⟨_, congrArg Ending.returned (congrArg Value.bool ?_), (HM.out.upd.trans' HU1.out).trans' HU2.out, hcq2, hfq2, fun hx => ?_⟩
                  · rw [hr1'.out.out, hdr.out, hok.out, hfit, hob, hoe]; rfl
                  · rw [hr1'.out.out, hdr.out, hok.out, hfit, hob, hoe] at hx; exact absurd hx (by simp)
                | true =>
                  have e2 := HQ2.out hoe
                  have E2 := Lib.hid e2
                  clear e2
                  go_wp2_with fail
                  go_roundg (gk - 1)
                  case measure => omega
                  case rel =>
                    refine ⟨j + 1, q2, by omega, by go_num, (HM.out.upd.trans' HU1.out).trans' HU2.out, hcq2, hfq2, ?_, ?_⟩
                    · unfold Hid
                      rw [hr1'.out.out, hdr.out, hok.out, hfit, hob, hoe]; rfl
                    · unfold Hid
                      have := hce.out; have := hcd.out; have := hr2'.out.out; have := E1.out; have := E2.out
                      omega
    · have hdn := List.drop_eq_nil_of_le (show xs.length ≤ j by omega)
      have HD := Lib.hid hdn
      have h1 := Lib.hid hr1
      have h2 := Lib.hid hr2
      clear hdn hr1 hr2
      go_wp2_with fail
      go_ret
      refine ⟨q, congrArg Ending.returned (congrArg Value.bool ?_), hu, hq, hfr, fun _ => ?_⟩
      · rw [h1.out.out, HD.out]; rfl
      · have := h2.out.out
        rw [HD.out] at this
        simp only [St.cnts] at this
        omega
theorem wkS_all : ∀ n, WkS n
  | 0 => wkS 0 (fun m h => by omega)
  | n + 1 => wkS (n + 1) (fun m h => (Nat.succ.inj h).symm ▸ wkS_all n)
end Go.Proofs.Ytedlhhhfifdnfaa
