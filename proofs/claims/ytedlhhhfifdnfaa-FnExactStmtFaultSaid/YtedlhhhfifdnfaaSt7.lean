/- StmtFault's walks: the program's own measure. -/
import Derived.Test.YtedlhhhfifdnfaaProg
import Derived.Test.YtedlhhhfifdnfaaSt6
import Derived.Deep.DeepCutAuto
import Derived.Deep.CutBlock
set_option linter.unusedVariables false
set_option linter.unusedSimpArgs false
namespace Go.Proofs.Ytedlhhhfifdnfaa
open Go.RowKit

theorem oks_drop7 (xs : List St) (j : Nat) (h : j < xs.length) : St.oks (xs.drop j) = (St.ok xs[j] && St.oks (xs.drop (j + 1))) := by
  rw [List.drop_eq_getElem_cons h, St.oks]
theorem ok_eq7 (s : St) : St.ok s = (St.fits s && St.oks s.body && St.oks s.els) := by cases s; rfl
mutual
def St.dlv : St → Int → Int
  | .mk k a b x y, l => if k = 3 then max (l + 1) (max (St.dlvs x (l + 1)) (St.dlvs y (l + 1))) else max (St.dlvs x l) (St.dlvs y l)
def St.dlvs : List St → Int → Int
  | [], _ => 0
  | s :: r, l => max (St.dlv s l) (St.dlvs r l)
end
theorem dlv_loop (s : St) (l : Int) (h : s.kind = 3) : St.dlv s l = max (l + 1) (max (St.dlvs s.body (l + 1)) (St.dlvs s.els (l + 1))) := by
  cases s with
  | mk k a b x y =>
    have h' : k = 3 := h
    subst h'
    simp only [St.dlv, if_true]
    rfl
theorem dlv_other (s : St) (l : Int) (h : ¬ s.kind = 3) : St.dlv s l = max (St.dlvs s.body l) (St.dlvs s.els l) := by
  cases s with
  | mk k a b x y =>
    have h' : ¬ k = 3 := h
    simp only [St.dlv, if_neg h']
    rfl
theorem dlvs_drop (xs : List St) (l : Int) (j : Nat) (h : j < xs.length) : St.dlvs (xs.drop j) l = max (St.dlv xs[j] l) (St.dlvs (xs.drop (j + 1)) l) := by
  rw [List.drop_eq_getElem_cons h, St.dlvs]
theorem dps_drop_le (xs : List St) : ∀ j, St.dps (xs.drop j) ≤ St.dps xs := by
  induction xs with
  | nil => intro j; simp [St.dps]
  | cons x r ih =>
    intro j
    cases j with
    | zero => exact Nat.le_refl _
    | succ j => rw [List.drop_succ_cons, St.dps]; have := ih j; omega

/-- Two cells that hold numbers, and may be written. -/
structure Two (w : World) (bc oc bd od : Nat) (c d : Int) : Prop where
  c1 : w.cell? ⟨bc, oc, none⟩ = some (.int .i64 c)
  f1 : w.frozen? ⟨bc, oc, none⟩ = false
  c2 : w.cell? ⟨bd, od, none⟩ = some (.int .i64 d)
  f2 : w.frozen? ⟨bd, od, none⟩ = false
theorem Two.set1 {w : World} {bc oc bd od : Nat} {c d : Int} (t : Two w bc oc bd od c d) (hne : bc ≠ bd) (c' : Int) : Two (w.setCell ⟨bc, oc, none⟩ (.int .i64 c')) bc oc bd od c' d := by
  obtain ⟨c1, f1, c2, f2⟩ := t
  refine ⟨by simp [go_sem, c1], by simp [go_sem, f1], ?_, by simp [go_sem, f2]⟩
  rw [World.cell?_of_block (Below.heap_setCell w _ _ _ (Ne.symm hne))]
  exact c2
theorem Two.set2 {w : World} {bc oc bd od : Nat} {c d : Int} (t : Two w bc oc bd od c d) (hne : bc ≠ bd) (d' : Int) : Two (w.setCell ⟨bd, od, none⟩ (.int .i64 d')) bc oc bd od c d' := by
  obtain ⟨c1, f1, c2, f2⟩ := t
  refine ⟨?_, by simp [go_sem, f1], by simp [go_sem, c2], by simp [go_sem, f2]⟩
  rw [World.cell?_of_block (Below.heap_setCell w _ _ _ hne)]
  exact c1
abbrev S2 (bc bd : Nat) : Nat → Prop := fun k => k = bc ∨ k = bd
theorem below2 {w0 w wc : World} {bc bd : Nat} (hw : Below w0.heap.size w0 w) (hu : Upd (S2 bc bd) w wc) (hc : w0.heap.size ≤ bc) (hd : w0.heap.size ≤ bd) : Below w0.heap.size w0 wc := hw.trans (hu.below hw.size (fun k e => e.elim (fun e => e ▸ hc) (fun e => e ▸ hd)))

def MeS (n : Nat) : Prop := ∀ (xs : List St), St.dps xs ≤ n → ∀ (e : Nat) (v : Value) (w0 w : World) (bc oc bd od : Nat) (c d l : Int), Rd w0 (.slice e 5 (St.ds e xs)) [v] → Below w0.heap.size w0 w → w0.heap.size ≤ bc → w0.heap.size ≤ bd → bc ≠ bd →
    Two w bc oc bd od c d → 0 ≤ c → 0 ≤ d → c + St.cnts xs ≤ 3000000 → 0 ≤ l → l + St.dps xs ≤ 3000000 →
    Calls Try.prog 45 #[v, .int .i64 l, .pointer (some ⟨bc, oc, none⟩), .pointer (some ⟨bd, od, none⟩)] w fun e w' => ∃ c' d', e = .returned (.bool (St.oks xs)) ∧ Upd (S2 bc bd) w w' ∧ Two w' bc oc bd od c' d' ∧
      (St.oks xs = true → c' = c + St.cnts xs ∧ d' = max d (St.dlvs xs l))

set_option maxRecDepth 100000 in
set_option maxHeartbeats 1000000 in
theorem meS (n : Nat) (IH : ∀ m, m + 1 = n → MeS m) : MeS n := by
  intro xs hn e v w0 w bc oc bd od c d l hv hw hbc hbd hne ht hc1 hd0 hc2 hl1 hl2
  obtain ⟨A, cap, rfl, hl, hel⟩ := Sts.open2 hv
  unfold maxLen at hl
  have HE := Lib.hid hel
  clear hel
  go_enter Try.func45, Try.ntmps45
  go_wp2_with fail
  go_loopg [14] xs.length (fun k i wr => ∃ (j : Nat) (q p : Int), k + j = xs.length ∧ i = .int .i64 j ∧ 0 ≤ p ∧ Upd (S2 bc bd) w wr ∧ Two wr bc oc bd od q p ∧
    Hid (St.oks xs = St.oks (xs.drop j)) ∧ Hid (q + St.cnts (xs.drop j) = c + St.cnts xs) ∧ Hid (max p (St.dlvs (xs.drop j) l) = max d (St.dlvs xs l)))
  case atStart => exact ⟨0, c, d, by omega, rfl, hd0, Upd.refl _ _, ht, by unfold Hid; rw [List.drop_zero], by unfold Hid; rw [List.drop_zero], by unfold Hid; rw [List.drop_zero]⟩
  case round =>
    obtain ⟨j, q, p, hk, rfl, hp0, hu, ht, hr1, hr2, hr3⟩ := hrel
    have hb := below2 hw hu hbc hbd
    by_cases hlt : j < xs.length
    · obtain ⟨b, o, A1, p1, A2, p2, rfl, c0, c1, c2, c3, c4, H1, H2⟩ := HE.out j hlt
      have hmem := dp_mem (List.getElem_mem hlt)
      have hb0 := World.block_lt_of_cell? w0 _ c0
      have hx1 : b ≠ bc := by have : b < w0.heap.size := hb0; omega
      have hx2 : b ≠ bd := by have : b < w0.heap.size := hb0; omega
      have HT := Lib.hid ht
      have ht1 := ht.set1 hne (q + 1)
      have hbn := hne.symm
      obtain ⟨k1, k2, k3, k4⟩ := ht
      have K0 := Lib.hid c0
      have K1 := Lib.hid c1
      have K2 := Lib.hid c2
      have K3 := Lib.hid c3
      have K4 := Lib.hid c4
      replace c0 := Below.cell' hb c0
      clear c1 c2 c3 c4
      cases n with
      | zero => exact absurd hn (by have := dp_body xs[j]; omega)
      | succ n =>
        have HI := Lib.hid (IH n rfl)
        have HU := Lib.hid hu
        have hq : 0 ≤ q ∧ q ≤ 2999999 := by
          have h1 := hr2.out
          have h2 := cnts_drop_le xs j
          have h3 := cnts_drop' xs j hlt
          have h4 := cnt_eq xs[j]
          omega
        obtain ⟨hq1, hq2⟩ := hq
        have T1 := Lib.hid ht1
        clear IH hu ht1
        have db := dp_body xs[j]
        have de := dp_els xs[j]
        obtain ⟨IN, hIN⟩ : ∃ x : Int, x = if xs[j].kind = 3 then l + 1 else l := ⟨_, rfl⟩
        obtain ⟨PP, hPP⟩ : ∃ x : Int, x = if xs[j].kind = 3 then max p (l + 1) else p := ⟨_, rfl⟩
        have hin : l ≤ IN ∧ IN ≤ l + 1 := by rw [hIN]; split <;> omega
        obtain ⟨hin1, hin2⟩ := hin
        have hPP0 : 0 ≤ PP := by rw [hPP]; split <;> omega
        have NI := Lib.hid hIN
        have NP := Lib.hid hPP
        clear hIN hPP
        go_upto_if 30 with (fail)
        go_cut [11] (fun v11 wc => v11 = .int .i64 IN ∧ Upd (S2 bc bd) w wc ∧ Two wc bc oc bd od (q + 1) PP)
        case first =>
          cases hkb : (xs[j].kind == 3) with
          | false =>
            have hk3 := Lib.hid (beq_eq_false_iff_ne.mp hkb)
            go_wp2_with fail
            go_meet
            refine ⟨by rw [NI.out, if_neg hk3.out], HU.out.setCell (.inl (.inl rfl)) _, ?_⟩
            rw [NP.out, if_neg hk3.out]
            exact T1.out
          | true =>
            have hk3 := Lib.hid (beq_iff_eq.mp hkb)
            go_wp2_with fail
            · rename_i hmx
              go_meet
              refine ⟨by rw [NI.out, if_pos hk3.out], (HU.out.setCell (.inl (.inl rfl)) _).setCell (.inl (.inr rfl)) _, ?_⟩
              rw [NP.out, if_pos hk3.out, show max p (l + 1) = l + 1 by omega]
              exact T1.out.set2 hne _
            · rename_i hmx
              go_meet
              refine ⟨by rw [NI.out, if_pos hk3.out], (HU.out.setCell (.inl (.inl rfl)) _).setCell (.inl (.inr rfl)) _, ?_⟩
              rw [NP.out, if_pos hk3.out, show max p (l + 1) = p by omega]
              exact T1.out.set2 hne _
        case rest =>
          obtain ⟨rfl, hu2, ht2⟩ := hcut
          have hok := Lib.hid (ok_eq7 xs[j])
          have hdr := Lib.hid (oks_drop7 xs j hlt)
          have hcd := Lib.hid (cnts_drop' xs j hlt)
          have hce := Lib.hid (cnt_eq xs[j])
          have hdd := Lib.hid (dlvs_drop xs l j hlt)
          have hcm := cnts_drop_le xs j
          have hr1' := Lib.hid hr1
          have hr2' := Lib.hid hr2
          have hr3' := Lib.hid hr3
          clear hr1 hr2 hr3 k1 k2 k3 k4 ht c0
          have hb2 := below2 hw hu2 hbc hbd
          have c0 := Below.cell' hb2 K0.out
          have c1 := Below.cell' hb2 K1.out
          have c2 := Below.cell' hb2 K2.out
          have c3 := Below.cell' hb2 K3.out
          have c4 := Below.cell' hb2 K4.out
          have HU2 := Lib.hid hu2
          have HT2 := Lib.hid ht2
          clear hu2 ht2
          go_wp2_with fail
          refine (fitsW xs[j] b (o + j * 5) A1 A2 p1 p2 _ c0 c1 c2 c3 c4).mono ?_
          rintro e1 w1 ⟨rfl, rfl⟩
          cases hfit : St.fits xs[j] with
          | false =>
            go_wp2_with fail
            go_ret
            refine ⟨_, _, congrArg Ending.returned (congrArg Value.bool ?_), HU2.out, HT2.out, fun hx => ?_⟩
            · rw [hr1'.out.out, hdr.out, hok.out, hfit]; rfl
            · rw [hr1'.out.out, hdr.out, hok.out, hfit] at hx; exact absurd hx (by simp)
          | true =>
            have hbd1 : q + 1 + (St.cnts xs[j].body : Int) ≤ 3000000 ∧ q + 1 + (St.cnts xs[j].body : Int) + (St.cnts xs[j].els : Int) ≤ 3000000 ∧ IN + (St.dps xs[j].body : Int) ≤ 3000000 ∧ IN + (St.dps xs[j].els : Int) ≤ 3000000 := by
              have := hce.out; have := hcd.out; have := hr2'.out.out
              omega
            obtain ⟨hbd1, hbd2, hbd3, hbd4⟩ := hbd1
            go_wp2_with fail
            refine (HI.out xs[j].body (by omega) e _ w0 _ bc oc bd od (q + 1) PP IN H1 hb2 hbc hbd hne HT2.out (by omega) hPP0 hbd1 (by omega) hbd3).mono ?_
            rintro e1 w1 ⟨q1, r1, rfl, hu3, ht3, hq3⟩
            have HU3 := Lib.hid hu3
            have HT3 := Lib.hid ht3
            have HQ3 := Lib.hid hq3
            clear hu3 ht3 hq3
            cases hob : St.oks xs[j].body with
            | false =>
              go_wp2_with fail
              go_ret
              refine ⟨_, _, congrArg Ending.returned (congrArg Value.bool ?_), HU2.out.trans' HU3.out, HT3.out, fun hx => ?_⟩
              · rw [hr1'.out.out, hdr.out, hok.out, hfit, hob]; rfl
              · rw [hr1'.out.out, hdr.out, hok.out, hfit, hob] at hx; exact absurd hx (by simp)
            | true =>
              have hb3 := below2 hw (HU2.out.trans' HU3.out) hbc hbd
              clear c0 c1 c2 c3 c4
              have c4 := Below.cell' hb3 K4.out
              have e1 := HQ3.out hob
              have E1 := Lib.hid e1
              have hq10 : 0 ≤ q1 ∧ q1 + (St.cnts xs[j].els : Int) ≤ 3000000 ∧ 0 ≤ r1 := by omega
              obtain ⟨hq10, hq11, hr10⟩ := hq10
              clear e1
              go_wp2_with fail
              refine (HI.out xs[j].els (by omega) e _ w0 _ bc oc bd od q1 r1 IN H2 hb3 hbc hbd hne HT3.out hq10 hr10 hq11 (by omega) hbd4).mono ?_
              rintro e1 w2 ⟨q2, r2, rfl, hu4, ht4, hq4⟩
              have HU4 := Lib.hid hu4
              have HT4 := Lib.hid ht4
              have HQ4 := Lib.hid hq4
              clear hu4 ht4 hq4
              cases hoe : St.oks xs[j].els with
              | false =>
                go_wp2_with fail
                go_ret
                refine ⟨_, _, congrArg Ending.returned (congrArg Value.bool ?_), (HU2.out.trans' HU3.out).trans' HU4.out, HT4.out, fun hx => ?_⟩
                · rw [hr1'.out.out, hdr.out, hok.out, hfit, hob, hoe]; rfl
                · rw [hr1'.out.out, hdr.out, hok.out, hfit, hob, hoe] at hx; exact absurd hx (by simp)
              | true =>
                have e2 := HQ4.out hoe
                have E2 := Lib.hid e2
                clear e2
                go_wp2_with fail
                go_roundg (gk - 1)
                case measure => omega
                case rel =>
                  refine ⟨j + 1, q2, r2, by omega, by go_num, by have := E2.out; omega, (HU2.out.trans' HU3.out).trans' HU4.out, HT4.out, ?_, ?_, ?_⟩
                  · unfold Hid
                    rw [hr1'.out.out, hdr.out, hok.out, hfit, hob, hoe]; rfl
                  · unfold Hid
                    have := hce.out; have := hcd.out; have := hr2'.out.out; have := E1.out; have := E2.out
                    omega
                  · unfold Hid
                    obtain ⟨_, h1⟩ := E1.out
                    obtain ⟨_, h2⟩ := E2.out
                    rw [← hr3'.out.out, hdd.out, h2, h1, NP.out, NI.out]
                    by_cases hk3 : xs[j].kind = 3
                    · rw [dlv_loop _ _ hk3]
                      simp only [hk3, if_true]
                      omega
                    · rw [dlv_other _ _ hk3]
                      simp only [hk3, if_false]
                      omega
    · have hdn := List.drop_eq_nil_of_le (show xs.length ≤ j by omega)
      have HD := Lib.hid hdn
      have h1 := Lib.hid hr1
      have h2 := Lib.hid hr2
      have h3 := Lib.hid hr3
      have HT := Lib.hid ht
      clear hdn hr1 hr2 hr3 ht
      go_wp2_with fail
      go_ret
      refine ⟨q, p, congrArg Ending.returned (congrArg Value.bool ?_), hu, HT.out, fun _ => ⟨?_, ?_⟩⟩
      · rw [h1.out.out, HD.out]; rfl
      · have := h2.out.out
        rw [HD.out] at this
        simp only [St.cnts] at this
        omega
      · have := h3.out.out
        rw [HD.out] at this
        simp only [St.dlvs] at this
        omega
theorem meS_all : ∀ n, MeS n
  | 0 => meS 0 (fun m h => by omega)
  | n + 1 => meS (n + 1) (fun m h => (Nat.succ.inj h).symm ▸ meS_all n)
end Go.Proofs.Ytedlhhhfifdnfaa
