import Derived.Test.YtedlhhhfifdnfaaProg
import Derived.Test.YtedlhhhfifdnfaaGen
import Derived.WalkKit
import Derived.Outline
import Derived.Deep.LoopGhost
import Derived.Deep.DeepCutAuto
import Derived.Deep.CutBlock
import Derived.Deep.Light
import Derived.Deep.QuietTactic
import Derived.BigQuiet
import Derived.StillTailTactics
import Derived.KernelRfl
import Derived.IntWalk
import Derived.Deep.DeepMust
import Derived.Lib.Hide
import Derived.Test.YtedlhhhfifdnfaaBl4
set_option linter.unusedVariables false
set_option linter.unusedSimpArgs false
namespace Go.Proofs.Ytedlhhhfifdnfaa
open Go.RowKit
theorem leadGo_drop' (xs : List GInstr) (j : Nat) (h : j < xs.length) (b : List Bool) : leadGo (xs.drop j) j b = leadGo (xs.drop (j + 1)) (j + 1) (leadStep b j xs[j]) := by
  rw [List.drop_eq_getElem_cons h, leadGo]
set_option maxRecDepth 100000 in
set_option maxHeartbeats 2000000 in
theorem blocksOf_spec (xs : List GInstr) (v : Value) (w : World) {e0 : Nat} (hv : Rd w (D.slice e0 4 (xs.map GInstr.d)) [v]) :
    Calls Try.prog 14 #[v] w fun e w' => ∃ v' h, e = .returned v' ∧ Own w' w.heap.size (D.slice 92 3 ((blocksOf xs).map GBlock.d)) [v'] h ∧ Below w.heap.size w w' := by
  have HV := Lib.hid hv
  obtain ⟨A, cap, rfl, hl, hel⟩ := GInstrs.open_ hv
  unfold maxLen at hl
  have HE := Lib.hid hel
  clear hel hv
  go_enter Try.func14, Try.ntmps14
  go_wp2_with fail
  refine (good_l5 xs _ _ (HV.out.below (below_box _))).mono ?_
  rintro e w1 ⟨rfl, rfl⟩
  cases hcg : codeGood xs with
  | false =>
    have hf : blocksOf xs = [] := by
      unfold blocksOf
      rw [hcg]
      rfl
    have HF := Lib.hid hf
    clear hf hcg
    have hown : Own (w.alloc (.cells #[] 92)) w.heap.size (D.slice 92 3 []) [.slice (some ⟨w.heap.size, 0, none⟩) 0 0] [(w.heap.size, 92, #[])] := by
      refine ⟨?_, In.cons.2 ⟨heap_alloc_new w _, In.nil _⟩, by simp [Hp.bs], by simp [Hp.bs]⟩
      rw [Lay]
      exact ⟨_, [], [(w.heap.size, 92, #[])], [], rfl, rfl, ⟨by simp, .inr ⟨w.heap.size, 0, #[], by simp, by simp, by simp [maxLen], by simp, by simp, rfl⟩⟩, by simp only [LayRow]; exact ⟨trivial, trivial⟩⟩
    have HO := Lib.hid hown
    clear hown
    go_wp2_with fail
    go_ret
    first
    | exact ⟨_, _, rfl, by rw [HF.out]; exact HO.out, below_box _⟩
    | exact ⟨_, rfl, ⟨_, by rw [HF.out]; exact HO.out⟩, below_box _⟩
  | true =>
    have HG := Lib.hid hcg
    have hr : 1 ≤ xs.length ∧ xs.length ≤ 1024 := by
      have h := hcg
      unfold codeGood at h
      simp only [Bool.and_eq_true, decide_eq_true_eq] at h
      exact h.1
    obtain ⟨hr1, hr2⟩ := hr
    have hic : ∀ j (hj : j < xs.length), goes xs[j] = true → ∃ t : Nat, xs[j].c = (t : Int) ∧ t < xs.length := by
      intro j hj hgo
      have h := hcg
      unfold codeGood at h
      simp only [Bool.and_eq_true] at h
      have h1 := List.all_eq_true.1 h.2 _ (List.getElem_mem hj)
      unfold inCode at h1
      rw [hgo] at h1
      simp at h1
      exact ⟨xs[j].c.toNat, by omega, by omega⟩
    have HIC := Lib.hid hic
    clear hcg hic
    obtain ⟨Z, hZ, hZZ, hmk⟩ := run_make_any (P := Try.prog) 87 4 _ 1 1 (by kernel_rfl) infoBool (xs.length + 1) (by omega) (by omega)
    have hmk' := hmk
    rw [show (((xs.length + 1 : Nat)) : Int) = (xs.length : Int) + 1 by omega] at hmk'
    have F0 := Flags.start (w.alloc (.cells #[] 92)) (xs.length + 1)
    rw [← hZZ] at F0
    have d0 := F0.cell 0 (by simp)
    have fr0 := F0.free 0
    have F1 := Flags.start0 (w.alloc (.cells #[] 92)) (xs.length + 1)
    rw [← hZZ] at F1
    rw [World.size_alloc] at F1 d0 fr0
    have F1 := Lib.hid F1
    clear F0 hZZ hmk
    go_wp2_with fail
    go_loopg [6] xs.length (fun gk i wr => ∃ (j : Nat) (b : List Bool), gk + j = xs.length ∧ i = .int .i64 j ∧ Hid (leadGo (xs.drop j) j b = lead xs) ∧ Hid (b.length = xs.length + 1) ∧ Hid (Flags wr (w.heap.size + 1) b) ∧ Hid (wr.heap[w.heap.size]? = some (.cells #[] 92 (0, 0))) ∧ Below w.heap.size w wr)
    case atStart => exact ⟨0, (List.replicate (xs.length + 1) false).set 0 true, by omega, rfl, rfl, by unfold Hid; simp, F1.out, by unfold Hid; rw [Below.heap_alloc _ _ _ (by simp), heap_alloc_new], below_new (below_box _) _⟩
    case round =>
      obtain ⟨j, b, hkj, rfl, hg, hbl, hf, hw0, hb⟩ := hrel
      clear d0 fr0 hmk' F1
      by_cases hlt : j < xs.length
      · obtain ⟨bc, o, rfl, k0, k1, k2, k3⟩ := HE.out j hlt
        have hbc : bc < w.heap.size := World.block_lt_of_cell? w _ k0
        have hgd := Lib.hid (leadGo_drop' xs j hlt b)
        have hrun : ∀ w' : World, Below w.heap.size w w' → w'.cell? ⟨bc, o + j * 4, none⟩ = some (.int .i64 xs[j].op) ∧ w'.cell? ⟨bc, o + j * 4 + 3, none⟩ = some (.int .i64 xs[j].c) := fun w' hw => ⟨Below.cell' hw k0, Below.cell' hw k3⟩
        have HR := Lib.hid hrun
        clear hrun k0 k1 k2 k3
        obtain ⟨c0, c3⟩ := HR.out wr hb
        have HB := Lib.hid hb
        have HF := Lib.hid hf.out
        have HW0 := Lib.hid hw0.out
        clear hf hw0
        have hkeep : ∀ (W : World), Upd (fun k => k = w.heap.size + 1) wr W → W.heap[w.heap.size]? = some (.cells #[] 92 (0, 0)) := fun W hu => (hu.block _ (Array.getElem?_eq_some_iff.1 HW0.out).1 (by omega)).trans HW0.out
        have HK := Lib.hid hkeep
        clear hkeep
        go_wp2_with fail
        refine (goes_l5 _ _).mono ?_
        rintro e w1 ⟨rfl, rfl⟩
        cases hgo : goes xs[j] with
        | true =>
          obtain ⟨c, hc, hcl⟩ := HIC.out j hlt hgo
          have hgo' := hgo
          unfold goes at hgo'
          have HG2 := Lib.hid hgo
          rw [hgo']
          have HG' := Lib.hid hgo'
          clear hgo hgo'
          rw [hc] at c3
          have HC := Lib.hid hc
          clear hc
          have d0 := HF.out.cell c (by rw [hbl.out]; omega)
          have fr0 := HF.out.free c
          have FF := HF.out.set c true
          have BB := below_set hb (p := ⟨w.heap.size + 1, c, none⟩) (by simp) (.bool true)
          obtain ⟨c0', c3'⟩ := HR.out _ BB
          have d1 := FF.cell (j + 1) (by rw [List.length_set, hbl.out]; omega)
          have fr1 := FF.free (j + 1)
          have HFF := Lib.hid FF
          have HBB := Lib.hid BB
          clear FF BB
          go_wp2_with fail
          refine (goes_l5 _ _).mono ?_
          rintro e w1 ⟨rfl, rfl⟩
          rw [HG'.out]
          go_wp2_with fail
          go_roundg (gk - 1)
          case measure => omega
          case rel =>
            refine ⟨j + 1, (b.set c true).set (j + 1) true, by omega, by go_num, ?_, by unfold Hid; simp [hbl.out], ?_, ?_, below_set HBB.out (by simp) _⟩
            · unfold Hid
              rw [← hg.out, hgd.out]
              unfold leadStep
              rw [HG2.out, HC.out, if_pos rfl]
              rfl
            · unfold Hid
              exact HFF.out.set (j + 1) true
            · unfold Hid
              exact HK.out _ (((Upd.refl (fun k => k = w.heap.size + 1) _).setCell (p := ⟨w.heap.size + 1, c, none⟩) (.inl rfl) _).setCell (p := ⟨w.heap.size + 1, j + 1, none⟩) (.inl rfl) _)
        | false =>
          have hgo' := hgo
          unfold goes at hgo'
          have HG2 := Lib.hid hgo
          rw [hgo']
          have HG' := Lib.hid hgo'
          clear hgo hgo'
          have d1 := HF.out.cell (j + 1) (by rw [hbl.out]; omega)
          have fr1 := HF.out.free (j + 1)
          go_wp2_with fail
          refine (goes_l5 _ _).mono ?_
          rintro e w1 ⟨rfl, rfl⟩
          rw [HG'.out]
          by_cases h29 : xs[j].op = 29
          · go_wp2_with fail
            go_roundg (gk - 1)
            case measure => omega
            case rel =>
              refine ⟨j + 1, b.set (j + 1) true, by omega, by go_num, ?_, by unfold Hid; simp [hbl.out], ?_, ?_, below_set HB.out (by simp) _⟩
              · unfold Hid
                rw [← hg.out, hgd.out]
                unfold leadStep
                rw [HG2.out, if_neg (by simp), if_pos (beq_iff_eq.2 h29)]
              · unfold Hid
                exact HF.out.set (j + 1) true
              · unfold Hid
                exact HK.out _ ((Upd.refl (fun k => k = w.heap.size + 1) _).setCell (p := ⟨w.heap.size + 1, j + 1, none⟩) (.inl rfl) _)
          · go_wp2_with fail
            go_roundg (gk - 1)
            case measure => omega
            case rel =>
              refine ⟨j + 1, b, by omega, by go_num, ?_, hbl, HF.out, HW0.out, HB.out⟩
              unfold Hid
              rw [← hg.out, hgd.out]
              unfold leadStep
              rw [HG2.out, if_neg (by simp), if_neg (fun h => h29 (beq_iff_eq.1 h))]
      · have hlead : b = lead xs := by
          have := hg.out
          rw [List.drop_eq_nil_of_le (by omega), leadGo] at this
          exact this
        subst hlead
        have HF := Lib.hid hf.out
        have HW0 := Lib.hid hw0.out
        clear hg hbl hf hw0
        obtain ⟨Y, hY, hmk2⟩ := run_make_of (P := Try.prog) 63 2 _ 1 8 (by kernel_rfl) infoInt64 xs.length (by omega) (by omega)
        go_wp2_with fail
        obtain ⟨wa, hwa⟩ : ∃ x : World, x = wr := ⟨_, rfl⟩
        subst hwa
        have G0 := BlkW.start' (n := xs.length) HW0.out HF.out hY (Nat.le_refl _) (by omega) (by omega) hb
        have HG0 := Lib.hid G0
        clear G0
        go_loopg [3, 8] xs.length (fun gk v7 i W => ∃ (j : Nat) (out : List GBlock) (at_ : List Int) (h : Hp), gk + j = xs.length ∧ i = .int .i64 j ∧ Hid (BlkInv j out at_) ∧ Hid (blkGo (((lead xs).take xs.length).drop j) j out at_ = blocks0 xs) ∧ Hid (BlkW w W (w.heap.size + 1) wa.heap.size xs.length (lead xs) at_ out v7 h))
        case atStart => exact ⟨0, [], [], _, by omega, rfl, BlkInv.start, rfl, HG0.out⟩
        case round =>
          obtain ⟨j2, out, at_, h, hkj2, rfl, hinv, hgo, hB⟩ := hrel
          clear HG0 hmk2 hY HF HW0
          by_cases hlt2 : j2 < xs.length
          · have HI := Lib.hid hinv.out
            have HBW := Lib.hid hB.out
            clear hinv hB
            have hll : j2 < (lead xs).length := by rw [lead_len]; omega
            have hfl : j2 < ((lead xs).take xs.length).length := by rw [List.length_take, lead_len]; omega
            have hst : blkGo (((lead xs).take xs.length).drop (j2 + 1)) (j2 + 1) (blkOut out j2 (lead xs)[j2]) (at_ ++ [((blkOut out j2 (lead xs)[j2]).length : Int) - 1]) = blocks0 xs := by
              have := hgo.out
              rw [List.drop_eq_getElem_cons hfl, blkGo, List.getElem_take] at this
              exact this
            have HST := Lib.hid hst
            clear hgo hst
            have d0 := HBW.out.fl.cell j2 hll
            have fr0 := HBW.out.fl.free j2
            have hnz : (lead xs)[j2] = true ∨ out ≠ [] := by
              rcases Nat.eq_zero_or_pos j2 with h0 | h0
              · subst h0
                have := lead_0 xs
                exact .inl (List.getElem?_eq_some_iff.1 this).2
              · exact .inr (HI.out.ne h0)
            obtain ⟨o, bl, hob, hbo⟩ := blkOut_form out j2 (lead xs)[j2] hnz
            have hob2 := Lib.hid hob
            have HBO := Lib.hid hbo
            clear hbo hnz
            have hal := HI.out.len
            have hole : out.length ≤ xs.length := by have := HI.out.le; omega
            go_upto_if 70 with (fail)
            go_cut [3] (fun v7 W2 => ∃ h2, Hid (BlkW w W2 (w.heap.size + 1) wa.heap.size xs.length (lead xs) at_ (o ++ [bl]) v7 h2))
            case first =>
              cases hfb : (lead xs)[j2] with
              | true =>
                rw [hfb] at d0 hob
                have HOB := Lib.hid hob
                clear hob
                go_wp2_with (at_builtin; (refine wpList_append_lay rfl _ _ 31 92 rfl _ 3 40 (by kernel_rfl) infoBlk (by kernel_rfl) (by omega) _ (out.map GBlock.d) h (by rfl) (by rfl) HBW.out.out.lay HBW.out.out.in_ HBW.out.out.nd (GBlock.d ⟨j2, 0, []⟩) [.int .i64 j2, .int .i64 0, .slice none 0 0] [] (GBlock.lay_ (x := ⟨j2, 0, []⟩) (lay_nil _ _)) rfl (by simp [Value.oneCell']) (In.nil _) List.nodup_nil (fun _ h => nomatch h) (by simp; omega) (by unfold maxLen; simp; omega) ?_); intro v' w' h' la hi' hnd' hnew hu)
                go_meet
                have B2 := HBW.out.app la hi' hnd' hnew hu
                have h3 := HOB.out
                simp only [reduceIte] at h3
                rw [h3] at B2
                exact ⟨h', Lib.hid B2⟩
              | false =>
                rw [hfb] at d0 hob
                have HOB := Lib.hid hob
                clear hob
                go_wp2_with fail
                go_meet
                have B2 := HBW.out
                have h3 := HOB.out
                simp only [reduceIte, Bool.false_eq_true] at h3
                rw [h3] at B2
                exact ⟨h, Lib.hid B2⟩
            case rest =>
              obtain ⟨h2, hB2⟩ := hcut
              have B2 := hB2.out
              clear hB2 HBW d0 fr0 hob
              obtain ⟨y0, e0⟩ := B2.at_.cell j2 hlt2
              have fe0 := B2.at_.free j2
              have B3 := B2.push (by omega) ((o.length : Int))
              rw [hal] at B3
              have a0 := B3.at_.get j2 (by simp; omega)
              rw [List.getElem_append_right (by omega)] at a0
              simp only [hal, Nat.sub_self, List.getElem_cons_zero] at a0
              obtain ⟨g, cp, A3, p3, hb3, rfl, hcp1, hcp2, hgw, m0, m1, m2, mf, _, _, _, hset, _⟩ := B3.mid
              simp only [List.length_nil, Nat.add_zero] at hcp1 ⊢
              have HSET := Lib.hid hset
              clear hset B2 B3
              have hol : o.length < xs.length := by
                have h1 := congrArg List.length hob2.out
                have h2 := HI.out.le
                split at h1 <;> simp at h1 <;> omega
              go_wp2_with fail
              go_roundg (gk - 1)
              case measure => omega
              case rel =>
                obtain ⟨h5, B5⟩ := HSET.out j2
                simp only [List.length_nil, Nat.add_zero] at B5
                have e1 : ((blkOut out j2 (lead xs)[j2]).length : Int) - 1 = o.length := by rw [HBO.out]; simp
                have hz : (lead xs)[j2] = true ∨ 0 < j2 := by
                  rcases Nat.eq_zero_or_pos j2 with h0 | h0
                  · subst h0
                    exact .inl (List.getElem?_eq_some_iff.1 (lead_0 xs)).2
                  · exact .inr h0
                have V := HI.out.step (lead xs)[j2] hz
                have GO := HST.out
                rw [e1, HBO.out] at V GO
                exact ⟨j2 + 1, _, _, h5, by omega, by go_num, V, GO, B5⟩
          · have hj2 : j2 = xs.length := by omega
            subst hj2
            have hb0 : (out, at_) = blocks0 xs := by
              have := hgo.out
              rw [List.drop_eq_nil_of_le (by rw [List.length_take]; omega), blkGo] at this
              exact this
            have HI := Lib.hid hinv.out
            have HBW := Lib.hid hB.out
            have HB0 := Lib.hid hb0
            have hone := HI.out.ne (by omega)
            have hole : out.length ≤ xs.length := by have := HI.out.le; omega
            have hopos : 0 < out.length := Nat.pos_of_ne_zero (fun h => hone (List.eq_nil_of_length_eq_zero h))
            clear hinv hB hgo hb0
            rcases lay_form HBW.out.out.lay with ⟨_, hx, _⟩ | ⟨g, cp, rfl⟩
            · exact absurd (List.map_eq_nil_iff.1 hx) hone
            rw [List.length_map] at HBW
            simp only [List.length_map]
            obtain ⟨wb, hwb⟩ : ∃ x : World, x = wr := ⟨_, rfl⟩
            subst hwb
            go_wp2_with fail
            go_loopg [9] out.length (fun gk i W => ∃ (q : Nat) (h3 : Hp), gk + q = out.length ∧ i = .int .i64 q ∧ Hid (BlkW w W (w.heap.size + 1) wa.heap.size xs.length (lead xs) at_ ((finL xs out.length at_ out 0).take q ++ out.drop q) (.slice (some ⟨g, 0, none⟩) out.length cp) h3))
            case atStart => exact ⟨0, _, by omega, rfl, by unfold Hid; simpa using HBW.out⟩
            case round =>
              obtain ⟨q, h3, hkq, rfl, hB3⟩ := hrel
              clear HBW
              by_cases hlt3 : q < out.length
              · obtain ⟨l1, l2, l3, l4⟩ := HI.out.last q out[q] (List.getElem?_eq_getElem hlt3)
                have hnx := HI.out.nx out[q] (List.getElem_mem hlt3)
                obtain ⟨c, hc⟩ : ∃ c : Nat, out[q].last = (c : Int) := ⟨out[q].last.toNat, by omega⟩
                have hcl : c < xs.length := by omega
                have hdr : (finL xs out.length at_ out 0).take q ++ out.drop q = (finL xs out.length at_ out 0).take q ++ (⟨out[q].first, c, []⟩ :: out.drop (q+1)) := by
                  rw [List.drop_eq_getElem_cons hlt3, ← hc, ← hnx]
                have hl1 : ((finL xs out.length at_ out 0).take q).length = q := by rw [List.length_take, finL_len]; omega
                have hst3 := finL_step xs out.length at_ out q hlt3
                rw [hc, Int.toNat_natCast, show xs.getD c zI = xs[c] by simp [hcl]] at hst3
                have HST3 := Lib.hid hst3
                have HLA := Lib.hid l4
                have HC0 := Lib.hid hc
                have l3' : (q + 1 = out.length → (c : Int) + 1 = xs.length) ∧ (q + 1 < out.length → (c : Int) + 1 < xs.length) := by
                  rw [hc] at l3 l4
                  exact ⟨fun h => l3 h, fun h => (l4 h).1⟩
                have HL3 := Lib.hid l3'
                clear l3 l3'
                clear hst3 l4
                generalize (finL xs out.length at_ out 0).take q = fin at hdr hl1 hB3 HST3
                have hrst : ∃ r, out.drop (q + 1) = r := ⟨_, rfl⟩
                obtain ⟨rst, hrst⟩ := hrst
                rw [hrst] at hdr
                have HRST := Lib.hid hrst
                clear hrst
                have B3 := hB3.out
                rw [hdr] at B3
                clear hB3 hdr
                obtain ⟨bc, oc, rfl, k0, k1, k2, k3⟩ := HE.out c hcl
                have hbc : bc < w.heap.size := World.block_lt_of_cell? w _ k0
                have hrun : ∀ w' : World, Below w.heap.size w w' → w'.cell? ⟨bc, oc + c * 4, none⟩ = some (.int .i64 xs[c].op) ∧ w'.cell? ⟨bc, oc + c * 4 + 1, none⟩ = some (.int .i64 xs[c].a) ∧ w'.cell? ⟨bc, oc + c * 4 + 2, none⟩ = some (.int .i64 xs[c].b) ∧ w'.cell? ⟨bc, oc + c * 4 + 3, none⟩ = some (.int .i64 xs[c].c) := fun w' hw => ⟨Below.cell' hw k0, Below.cell' hw k1, Below.cell' hw k2, Below.cell' hw k3⟩
                have HR := Lib.hid hrun
                clear hrun k0 k1 k2 k3
                obtain ⟨c0, c1, c2, c3⟩ := HR.out _ B3.below
                obtain ⟨g', cp', A3, p3, hb3, hv3, hcp1, hcp2, hgw, m0, m1, m2, mf, ly, lin, lnd, _, hput⟩ := B3.mid
                injection hv3 with e1 e2 e3
                injection e1 with e1
                injection e1 with e1
                subst e1 e3
                have E2 := Lib.hid e2
                clear e2
                rw [hl1] at m0 m1 m2 hput
                simp only [List.length_nil] at m2
                simp only [List.length_nil, List.map_nil] at ly
                have HPUT := Lib.hid hput
                have HB3 := Lib.hid B3
                have HL1 := Lib.hid hl1
                clear hput B3 ly lin lnd hnx hc hl1
                obtain ⟨y1, hy1⟩ : ∃ y : List Int, y = if xs[c].op ≠ 25 ∧ xs[c].op ≠ 29 ∧ q + 1 < out.length then [(q : Int) + 1] else [] := ⟨_, rfl⟩
                have HY := Lib.hid hy1
                clear hy1
                go_upto_region 27 with (fail)
                have X1 : ((wr.alloc (.cells #[.int .i64 xs[c].op, .int .i64 xs[c].a, .int .i64 xs[c].b, .int .i64 xs[c].c] 90)).alloc (.cells #[] 2)).cell? ⟨wr.heap.size, 0, none⟩ = some (.int .i64 xs[c].op) := by simp [go_sem]
                have X2 : ((wr.alloc (.cells #[.int .i64 xs[c].op, .int .i64 xs[c].a, .int .i64 xs[c].b, .int .i64 xs[c].c] 90)).alloc (.cells #[] 2)).cell? ⟨wr.heap.size, 3, none⟩ = some (.int .i64 xs[c].c) := by simp [go_sem]
                have X3 : Own ((wr.alloc (.cells #[.int .i64 xs[c].op, .int .i64 xs[c].a, .int .i64 xs[c].b, .int .i64 xs[c].c] 90)).alloc (.cells #[] 2)) (wr.heap.size + 1) (D.slice 2 1 []) [.slice (some ⟨wr.heap.size + 1, 0, none⟩) 0 0] [(wr.heap.size + 1, 2, #[])] := by
                  refine ⟨?_, In.cons.2 ⟨?_, In.nil _⟩, by simp [Hp.bs], by simp [Hp.bs]⟩
                  · rw [Lay]
                    exact ⟨_, [], [(wr.heap.size + 1, 2, #[])], [], rfl, rfl, ⟨by simp, .inr ⟨wr.heap.size + 1, 0, #[], by simp, by simp, by simp [maxLen], by simp, by simp, rfl⟩⟩, by simp only [LayRow]; exact ⟨trivial, trivial⟩⟩
                  · have := heap_alloc_new (wr.alloc (.cells #[.int .i64 xs[c].op, .int .i64 xs[c].a, .int .i64 xs[c].b, .int .i64 xs[c].c] 90)) (.cells #[] 2)
                    rw [World.size_alloc] at this
                    exact this
                have X4 : Below wr.heap.size wr ((wr.alloc (.cells #[.int .i64 xs[c].op, .int .i64 xs[c].a, .int .i64 xs[c].b, .int .i64 xs[c].c] 90)).alloc (.cells #[] 2)) := below_new (below_box _) _
                have X5 : ((wr.alloc (.cells #[.int .i64 xs[c].op, .int .i64 xs[c].a, .int .i64 xs[c].b, .int .i64 xs[c].c] 90)).alloc (.cells #[] 2)).heap.size = wr.heap.size + 2 := by simp
                generalize (wr.alloc (.cells #[.int .i64 xs[c].op, .int .i64 xs[c].a, .int .i64 xs[c].b, .int .i64 xs[c].c] 90)).alloc (.cells #[] 2) = W2 at X1 X2 X3 X4 X5 ⊢
                have hl6 : ((c : Int) + 1 < xs.length) ↔ q + 1 < out.length := by
                  have h2 := HL3.out
                  omega
                have m1' := Below.cell' X4 m1
                clear m0 m1 m2 mf c0 c1 c2 c3
                go_cut [122] (fun v122 W3 => v122 = .bool (decide (xs[c].op ≠ 25 ∧ xs[c].op ≠ 29 ∧ q + 1 < out.length)) ∧ W2 = W3)
                case first =>
                  go_wp2_with fail
                  all_goals
                    go_meet
                    refine ⟨congrArg Value.bool ?_, rfl⟩
                    clear m1' X1 X2 X3
                    go_light
                    rw [Bool.eq_iff_iff]
                    first | (simp; done) | (simp; omega) | (simp [*]; done) | (simp [*]; omega) | trace_state
                case rest =>
                obtain ⟨rfl, rfl⟩ := hcut
                have HB2 := Lib.hid (HB3.out.same X4)
                have HX3 := Lib.hid X3
                have HX4 := Lib.hid X4
                have HX5 := Lib.hid X5
                clear X3 X4 X5
                go_upto_if 122 with (fail)
                go_cut [11] (fun v11 W3 => ∃ h4, Hid (Own W3 (wr.heap.size + 1) (D.slice 2 1 (y1.map (D.int .i64))) [v11] h4) ∧ Hid (Below wr.heap.size wr W3) ∧ Hid (W3.cell? ⟨wr.heap.size, 0, none⟩ = some (.int .i64 xs[c].op)) ∧ Hid (W3.cell? ⟨wr.heap.size, 3, none⟩ = some (.int .i64 xs[c].c)))
                case first =>
                  by_cases tt : xs[c].op ≠ 25 ∧ xs[c].op ≠ 29 ∧ q + 1 < out.length
                  · have hy : y1 = [(q : Int) + 1] := by rw [HY.out, if_pos tt]
                    have HYY := Lib.hid hy
                    rw [decide_eq_true tt]
                    have hl7 : c + 1 < xs.length := by have := hl6.2 tt.2.2; omega
                    obtain ⟨_, ha⟩ := HLA.out tt.2.2
                    have hal : at_.length = xs.length := HI.out.len
                    have ha2 := HB2.out.at_.get (c + 1) (by omega)
                    rw [HC0.out, show ((c : Int) + 1).toNat = c + 1 by omega] at ha
                    rw [(List.getElem?_eq_some_iff.1 ha).2] at ha2
                    clear hy tt ha hal
                    go_wp2_with (at_builtin; (refine wpList_append_lay rfl _ _ 63 2 rfl _ 1 8 (by kernel_rfl) infoInt64 (by kernel_rfl) (by omega) _ [] _ (by rfl) (by rfl) HX3.out.lay HX3.out.in_ HX3.out.nd (D.int .i64 ((q : Int) + 1)) [.int .i64 ((q : Int) + 1)] [] lay_int rfl (by simp [Value.oneCell']) (In.nil _) List.nodup_nil (fun _ h => nomatch h) (by simp) (by unfold maxLen; simp) ?_); intro v' w' h' la hi' hnd' hnew hu)
                    go_meet
                    rw [HYY.out]
                    have hS : ∀ b, b ∈ Hp.bs [(wr.heap.size + 1, 2, (#[] : Array Value))] → b = wr.heap.size + 1 := fun b hb => by simpa [Hp.bs] using hb
                    have hX5 := HX5.out
                    refine ⟨h', ⟨la, hi', hnd', fun b hb => ?_⟩, HX4.out.trans (hu.below HX4.out.size (fun k hk => by rw [hS k hk]; omega)), hu.cell X1 (fun h => by have := hS _ h; simp at this), hu.cell X2 (fun h => by have := hS _ h; simp at this)⟩
                    rcases hnew b hb with h | h | h
                    · rw [hS b h]
                      exact Nat.le_refl _
                    · cases h
                    · omega
                  · have hy : y1 = [] := by rw [HY.out, if_neg tt]
                    have HYY := Lib.hid hy
                    rw [decide_eq_false tt]
                    clear hy tt
                    go_wp2_with fail
                    go_meet
                    rw [HYY.out]
                    exact ⟨_, HX3.out, HX4.out, X1, X2⟩
                case rest =>
                obtain ⟨h4, hO4, hB4, hX1, hX2⟩ := hcut
                have HO4 := Lib.hid hO4.out
                have HX4' := Lib.hid hB4.out
                have x1 := hX1.out
                have x2 := hX2.out
                obtain ⟨A5, p5, rfl⟩ := lay_sl_any HO4.out.lay
                rw [List.length_map] at HO4
                simp only [List.length_map]
                clear hO4 hB4 hX1 hX2 HB2 HX3 HX4 HX5 X1 X2 m1' hl6
                have HB6 := Lib.hid (HB3.out.same HX4'.out)
                have hgq : ∀ nq : Nat, Calls Try.prog 48 #[.int .i64 xs[c].op] (wc.drewN nq) fun e w' => e = .returned (.bool (goes xs[c])) ∧ w' = wc.drewN nq := fun nq => goes_quiet _ _
                have hyy : y1 = [] ∨ y1 = [(q : Int) + 1] := by rw [HY.out]; split <;> simp
                have HYY := Lib.hid hyy
                have hal : at_.length = xs.length := HI.out.len
                have HAL := Lib.hid hal
                have hcn : ∃ t : Nat, goes xs[c] = true → xs[c].c = (t : Int) ∧ t < xs.length := by
                  cases hgo : goes xs[c] with
                  | false => exact ⟨0, fun h => by cases h⟩
                  | true =>
                    obtain ⟨t, h1, h2⟩ := HIC.out c hcl hgo
                    exact ⟨t, fun _ => ⟨h1, h2⟩⟩
                obtain ⟨t, htt⟩ := hcn
                have HTT := Lib.hid htt
                clear hyy hal htt
                go_upto_region 29 with (fail)
                go_cut [153] (fun v153 W3 => v153 = .bool (decide (goes xs[c] = true ∧ (y1 = [] ∨ y1 ≠ [at_.getD t 0]))) ∧ ∃ nq : Nat, wc.drewN nq = W3)
                case first =>
                  cases hgo : goes xs[c] with
                  | false =>
                    rw [hgo] at hgq
                    have HGO := Lib.hid hgo
                    clear hgo
                    go_quiet ((go_at_call 48; refine Calls.quiet_of_same (hgq _)))
                    go_wp2_with fail
                    go_meet
                    exact ⟨by simp [HGO.out], _, rfl⟩
                  | true =>
                    rw [hgo] at hgq
                    have HGO := Lib.hid hgo
                    obtain ⟨h1, h2⟩ := HTT.out hgo
                    clear hgo
                    have a0 := HB6.out.at_.get t (by rw [HAL.out]; exact h2)
                    have hgd : at_.getD t 0 = at_[t]'(by rw [HAL.out]; exact h2) := by rw [List.getD_eq_getElem?_getD, List.getElem?_eq_getElem]; rfl
                    have HGD := Lib.hid hgd
                    clear hgd
                    rw [h1] at x2
                    clear h1
                    rcases HYY.out with rfl | rfl
                    · simp only [List.length_nil]
                      go_quiet ((go_at_call 48; refine Calls.quiet_of_same (hgq _)))
                      go_wp2_with fail
                      go_meet
                      exact ⟨by simp [HGO.out], _, rfl⟩
                    · obtain ⟨A6, p6, hv6, _, hel6⟩ := ints_open (xs := [(q : Int) + 1]) HO4.out.rd
                      injection hv6 with e1 e2 e3
                      subst e1
                      clear e2 e3
                      obtain ⟨b6, o6, rfl, k6⟩ := hel6 0 (by simp)
                      clear hel6
                      simp only [List.getElem_cons_zero, Nat.add_zero] at k6
                      simp only [List.length_singleton]
                      go_quiet ((go_at_call 48; refine Calls.quiet_of_same (hgq _)))
                      go_wp2_with fail
                      all_goals
                        go_meet
                        refine ⟨congrArg Value.bool ?_, _, rfl⟩
                        rw [HGD.out, HGO.out, Bool.eq_iff_iff]
                        clear x1 x2 a0 k6
                        go_light
                        first | (simp; done) | (simp [*]; done) | (simp; omega)
                case rest =>
                obtain ⟨rfl, nq, rfl⟩ := hcut
                have hq : Own (wc.drewN nq) (wr.heap.size + 1) (D.slice 2 1 (y1.map (D.int .i64))) [.slice A5 y1.length p5] h4 ∧ Below wr.heap.size wr (wc.drewN nq) ∧ (wc.drewN nq).cell? ⟨wr.heap.size, 0, none⟩ = some (.int .i64 xs[c].op) ∧ (wc.drewN nq).cell? ⟨wr.heap.size, 3, none⟩ = some (.int .i64 xs[c].c) := ⟨HO4.out.below (below_drewN (Below.refl _ _) nq), below_drewN HX4'.out nq, Below.cell' (below_drewN (Below.refl _ _) nq) x1, Below.cell' (below_drewN (Below.refl _ _) nq) x2⟩
                clear hgq x1 x2 HO4 HX4' HB6
                generalize wc.drewN nq = W5 at hq ⊢
                obtain ⟨ho5, hb5, x1, x2⟩ := hq
                have HO5 := Lib.hid ho5
                have HB5 := Lib.hid hb5
                have HB6 := Lib.hid (HB3.out.same hb5)
                clear ho5 hb5
                go_upto_if 153 with (fail)
                go_cut [11] (fun v11 W6 => ∃ h6, Hid (Own W6 (wr.heap.size + 1) (D.slice 2 1 ((nextOf out.length at_ q xs[c]).map (D.int .i64))) [v11] h6) ∧ Hid (Below wr.heap.size wr W6))
                case first =>
                  by_cases tt : goes xs[c] = true ∧ (y1 = [] ∨ y1 ≠ [at_.getD t 0])
                  · obtain ⟨h1, h2⟩ := HTT.out tt.1
                    have hy : nextOf out.length at_ q xs[c] = y1 ++ [at_.getD t 0] := by
                      rw [nextOf_eq out.length at_ q xs[c] t (at_.getD t 0) (fun h => (HTT.out h).1) (fun _ => rfl) y1 HY.out, if_pos tt]
                    have HN2 := Lib.hid hy
                    rw [decide_eq_true tt]
                    have a0 := HB6.out.at_.get t (by rw [HAL.out]; exact h2)
                    have hgd : at_.getD t 0 = at_[t]'(by rw [HAL.out]; exact h2) := by rw [List.getD_eq_getElem?_getD, List.getElem?_eq_getElem]; rfl
                    have HGD := Lib.hid hgd
                    have hyl : y1.length ≤ 1 := by rcases HYY.out with h | h <;> rw [h] <;> simp
                    clear hgd tt hy
                    rw [h1] at x2
                    clear h1
                    go_wp2_with (at_builtin; (refine wpList_append_lay rfl _ _ 63 2 rfl _ 1 8 (by kernel_rfl) infoInt64 (by kernel_rfl) (by omega) _ (y1.map (D.int .i64)) h4 (by rfl) (by rfl) HO5.out.lay HO5.out.in_ HO5.out.nd (D.int .i64 (at_[t]'(by rw [HAL.out]; exact h2))) [.int .i64 (at_[t]'(by rw [HAL.out]; exact h2))] [] lay_int rfl (by simp [Value.oneCell']) (In.nil _) List.nodup_nil (fun _ h => nomatch h) (by simp; omega) (by unfold maxLen; simp; omega) ?_); intro v' w' h' la hi' hnd' hnew hu)
                    go_meet
                    rw [HN2.out, HGD.out]
                    have hsz := HB5.out.size
                    refine ⟨h', ⟨by rw [List.map_append]; exact la, hi', hnd', fun b hb => ?_⟩, HB5.out.trans (hu.below HB5.out.size (fun k hk => by have := HO5.out.lo k hk; omega))⟩
                    rcases hnew b hb with h | h | h
                    · exact HO5.out.lo b h
                    · cases h
                    · have := HO5.out.lt
                      have := World.block_lt_of_cell? _ _ x1
                      simp at this
                      omega
                  · have hy : nextOf out.length at_ q xs[c] = y1 := by
                      rw [nextOf_eq out.length at_ q xs[c] t (at_.getD t 0) (fun h => (HTT.out h).1) (fun _ => rfl) y1 HY.out, if_neg tt]
                    have HN2 := Lib.hid hy
                    rw [decide_eq_false tt]
                    clear hy tt
                    go_wp2_with fail
                    go_meet
                    rw [HN2.out]
                    exact ⟨h4, HO5.out, HB5.out⟩
                case rest =>
                obtain ⟨h6, hO6, hB6⟩ := hcut
                have HO6 := Lib.hid hO6.out
                have HB7 := Lib.hid hB6.out
                clear hO6 hB6 HO5 HB5 HB6 x1 x2
                obtain ⟨A8, p8, rfl⟩ := lay_sl_any HO6.out.lay
                obtain ⟨s1, s2, h4', B4⟩ := HPUT.out _ wc h6 (nextOf out.length at_ q xs[c]) HO6.out.lay HO6.out.in_ HO6.out.nd (fun b hb => .inr (by have := HO6.out.lo b hb; omega)) (Upd.of_below HB7.out _)
                have HB4 := Lib.hid B4
                clear B4
                go_wp2_with fail
                go_roundg (gk - 1)
                case measure => omega
                case rel =>
                  refine ⟨q + 1, h4', by omega, by go_num, ?_⟩
                  unfold Hid
                  rw [HST3.out, List.append_assoc, HRST.out]
                  have BB := HB4.out
                  simp only [List.length_map] at BB
                  exact BB
              · have hqe : q = out.length := by omega
                subst hqe
                have B := hB3.out
                rw [List.drop_eq_nil_of_le (Nat.le_refl _), List.append_nil, List.take_of_length_le (by rw [finL_len]; exact Nat.le_refl _)] at B
                have HBF := Lib.hid B
                clear hB3 B
                go_wp2_with fail
                go_ret
                refine ⟨_, h3, rfl, ?_, HBF.out.below⟩
                rw [blocksOf_good xs HG.out, ← HB0.out]
                exact HBF.out.out
end Go.Proofs.Ytedlhhhfifdnfaa
