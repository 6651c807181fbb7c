import Derived.Test.YtedlhhhfifdnfaaProg
import Derived.Test.YtedlhhhfifdnfaaGen
import Derived.WalkKit
import Derived.Outline
import Derived.Deep.LoopGhost
import Derived.Deep.DeepCutAuto
import Derived.Deep.CutBlock
import Derived.Deep.Light
import Derived.Deep.QuietTactic
import Derived.BigQuiet
import Derived.StillTailTactics
import Derived.KernelRfl
import Derived.IntWalk
import Derived.Deep.DeepMust
import Derived.Lib.Hide
import Derived.Test.YtedlhhhfifdnfaaBl4
import Derived.Test.YtedlhhhfifdnfaaApp
import Derived.Deep.RegionLaw
set_option linter.unusedVariables false
set_option linter.unusedSimpArgs false
namespace Go.Proofs.Ytedlhhhfifdnfaa
open Go.RowKit
theorem leadGo_drop (xs : List GInstr) (j : Nat) (h : j < xs.length) (b : List Bool) : leadGo (xs.drop j) j b = leadGo (xs.drop (j + 1)) (j + 1) (leadStep b j xs[j]) := by
  rw [List.drop_eq_getElem_cons h, leadGo]
theorem bad_nil (xs : List GInstr) (j : Nat) (h : j < xs.length) (hb : inCode xs.length xs[j] = false) : blocksOf xs = [] := by
  have : codeGood xs = false := by
    unfold codeGood
    have : xs.all (inCode xs.length) = false := by
      rw [List.all_eq_false]
      exact ⟨xs[j], List.getElem_mem h, by rw [hb]; simp⟩
    rw [this, Bool.and_false]
  unfold blocksOf
  rw [this]
  rfl
theorem bad_len (xs : List GInstr) (h : ¬ (1 ≤ xs.length ∧ xs.length ≤ 1024)) : blocksOf xs = [] := by
  have : codeGood xs = false := by
    unfold codeGood
    by_cases h1 : 1 ≤ xs.length
    · have h2 : ¬ xs.length ≤ 1024 := fun h3 => h ⟨h1, h3⟩
      simp [h2]
    · simp [h1]
  unfold blocksOf
  rw [this]
  rfl
set_option maxRecDepth 100000 in
set_option maxHeartbeats 2000000 in
theorem blocksOf_impl (xs : List GInstr) (v : Value) (w : World) {e0 : Nat} (hv : Rd w (D.slice e0 4 (xs.map GInstr.d)) [v]) :
    Calls Try.prog 16 #[v] w fun e w' => ∃ v' h, e = .returned v' ∧ Own w' w.heap.size (D.slice 92 3 ((blocksOf xs).map GBlock.d)) [v'] h ∧ Below w.heap.size w w' := by
  obtain ⟨A, cap, rfl, hl, hel⟩ := GInstrs.open_ hv
  unfold maxLen at hl
  have HE := Lib.hid hel
  clear hel
  have hnil : ∀ w' : World, Own w' w.heap.size (D.slice 92 3 []) [.slice none 0 0] [] := fun w' => ⟨by rw [Lay]; exact ⟨_, [], [], [], rfl, rfl, ⟨by simp, .inl ⟨rfl, rfl, rfl⟩⟩, by simp only [LayRow]; exact ⟨trivial, trivial⟩⟩, In.nil _, List.nodup_nil, (fun _ h => nomatch h)⟩
  have HN := Lib.hid hnil
  clear hnil
  go_enter Try.func16, Try.ntmps16
  by_cases hr : 1 ≤ xs.length ∧ xs.length ≤ 1024
  · obtain ⟨hr1, hr2⟩ := hr
    obtain ⟨Z, hZ, hZZ, hmk⟩ := run_make_any (P := Try.prog) 87 4 _ 1 1 (by kernel_rfl) infoBool (xs.length + 1) (by omega) (by omega)
    have hmk' := hmk
    rw [show (((xs.length + 1 : Nat)) : Int) = (xs.length : Int) + 1 by omega] at hmk'
    have F0 := Flags.start w (xs.length + 1)
    rw [← hZZ] at F0
    have d0 := F0.cell 0 (by simp)
    have fr0 := F0.free 0
    have F1 := Flags.start0 w (xs.length + 1)
    rw [← hZZ] at F1
    have F1 := Lib.hid F1
    clear F0 hZZ hmk
    go_wp2_with fail
    go_loopg [27] xs.length (fun gk i wr => ∃ (j : Nat) (b : List Bool), gk + j = xs.length ∧ i = .int .i64 j ∧ Hid (leadGo (xs.drop j) j b = lead xs) ∧ Hid (b.length = xs.length + 1) ∧ Hid ((xs.take j).all (inCode xs.length) = true) ∧ Hid (Flags wr w.heap.size b) ∧ w.heap.size < wr.heap.size ∧ Below w.heap.size w wr)
    case atStart => exact ⟨0, (List.replicate (xs.length + 1) false).set 0 true, by omega, rfl, rfl, by unfold Hid; simp, by unfold Hid; simp, F1.out, by simp, below_box _⟩
    case round =>
      obtain ⟨j, b, hkj, rfl, hg, hbl, hall, hf, hsz, hb⟩ := hrel
      clear d0 fr0 hmk' F1
      by_cases hlt : j < xs.length
      · obtain ⟨bc, o, rfl, k0, k1, k2, k3⟩ := HE.out j hlt
        have hbc : bc < w.heap.size := World.block_lt_of_cell? w _ k0
        have hgd := Lib.hid (leadGo_drop xs j hlt b)
        have hrun : ∀ w' : World, Below w.heap.size w w' → w'.cell? ⟨bc, o + j * 4, none⟩ = some (.int .i64 xs[j].op) ∧ w'.cell? ⟨bc, o + j * 4 + 3, none⟩ = some (.int .i64 xs[j].c) := fun w' hw => ⟨Below.cell' hw k0, Below.cell' hw k3⟩
        have HR := Lib.hid hrun
        clear hrun k0 k1 k2 k3
        obtain ⟨c0, c3⟩ := HR.out wr hb
        have HB := Lib.hid hb
        have HF := Lib.hid hf.out
        clear hf
        go_wp2_with fail
        refine (names_impl _ _ _ _ c0).mono ?_
        rintro e w1 ⟨rfl, rfl⟩
        cases hgo : goes xs[j] with
        | true =>
          have hgo' := hgo
          unfold goes at hgo'
          have HG := Lib.hid hgo
          rw [hgo']
          have HG' := Lib.hid hgo'
          clear hgo hgo'
          go_wp2_with fail
          refine (below_impl _ _ _).mono ?_
          rintro e w1 ⟨rfl, rfl⟩
          cases hin : (decide (0 ≤ xs[j].c) && decide (xs[j].c < (xs.length : Int))) with
          | false =>
            have hn := bad_nil xs j hlt (by rw [inCode, HG.out, hin]; rfl)
            have HNN := Lib.hid hn
            clear hn hin
            go_wp2_with fail
            go_ret
            exact ⟨_, [], rfl, by rw [HNN.out]; exact HN.out _, HB.out⟩
          | true =>
            have hic : inCode xs.length xs[j] = true := by rw [inCode, HG.out, hin]; rfl
            simp only [Bool.and_eq_true, decide_eq_true_eq] at hin
            obtain ⟨c, hc⟩ : ∃ c : Nat, xs[j].c = (c : Int) := ⟨xs[j].c.toNat, by omega⟩
            rw [hc] at c3
            have hcl : c < xs.length := by omega
            have HIC := Lib.hid hic
            have HC := Lib.hid hc
            clear hin hic hc
            have d0 := HF.out.cell c (by rw [hbl.out]; omega)
            have fr0 := HF.out.free c
            have FF := HF.out.set c true
            have BB := below_set hb (p := ⟨w.heap.size, c, none⟩) (Nat.le_refl _) (.bool true)
            obtain ⟨c0', c3'⟩ := HR.out _ BB
            have d1 := FF.cell (j + 1) (by rw [List.length_set, hbl.out]; omega)
            have fr1 := FF.free (j + 1)
            have HFF := Lib.hid FF
            have HBB := Lib.hid BB
            clear FF BB
            go_wp2_with fail
            refine (names_impl _ _ _ _ c0').mono ?_
            rintro e w1 ⟨rfl, rfl⟩
            rw [HG'.out]
            go_wp2_with fail
            go_roundg (gk - 1)
            case measure => omega
            case rel =>
              refine ⟨j + 1, (b.set c true).set (j + 1) true, by omega, by go_num, ?_, by unfold Hid; simp [hbl.out], ?_, ?_, by simpa using hsz, below_set HBB.out (Nat.le_refl _) _⟩
              · unfold Hid
                rw [← hg.out, hgd.out]
                unfold leadStep
                rw [HG.out, HC.out, if_pos rfl]
                rfl
              · unfold Hid
                rw [List.take_add_one, List.all_append, hall.out, List.getElem?_eq_getElem hlt]
                simp [HIC.out]
              · unfold Hid
                exact HFF.out.set (j + 1) true
        | false =>
          have hgo' := hgo
          unfold goes at hgo'
          have HG := Lib.hid hgo
          rw [hgo']
          have HG' := Lib.hid hgo'
          clear hgo hgo'
          have hic : inCode xs.length xs[j] = true := by rw [inCode, HG.out]; rfl
          have HIC := Lib.hid hic
          clear hic
          have d1 := HF.out.cell (j + 1) (by rw [hbl.out]; omega)
          have fr1 := HF.out.free (j + 1)
          go_wp2_with fail
          refine (names_impl _ _ _ _ c0).mono ?_
          rintro e w1 ⟨rfl, rfl⟩
          rw [HG'.out]
          by_cases h29 : xs[j].op = 29
          · go_wp2_with fail
            go_roundg (gk - 1)
            case measure => omega
            case rel =>
              refine ⟨j + 1, b.set (j + 1) true, by omega, by go_num, ?_, by unfold Hid; simp [hbl.out], ?_, ?_, by simpa using hsz, below_set HB.out (Nat.le_refl _) _⟩
              · unfold Hid
                rw [← hg.out, hgd.out]
                unfold leadStep
                rw [HG.out, if_pos (beq_iff_eq.2 h29)]
                rfl
              · unfold Hid
                rw [List.take_add_one, List.all_append, hall.out, List.getElem?_eq_getElem hlt]
                simp [HIC.out]
              · unfold Hid
                exact HF.out.set (j + 1) true
          · go_wp2_with fail
            go_roundg (gk - 1)
            case measure => omega
            case rel =>
              refine ⟨j + 1, b, by omega, by go_num, ?_, hbl, ?_, HF.out, hsz, HB.out⟩
              · unfold Hid
                rw [← hg.out, hgd.out]
                unfold leadStep
                rw [HG.out, if_neg (by simp), if_neg (fun h => h29 (beq_iff_eq.1 h))]
              · unfold Hid
                rw [List.take_add_one, List.all_append, hall.out, List.getElem?_eq_getElem hlt]
                simp [HIC.out]
      · have hlead : b = lead xs := by
          have := hg.out
          rw [List.drop_eq_nil_of_le (by omega), leadGo] at this
          exact this
        have hgood : codeGood xs = true := by
          have := hall.out
          rw [List.take_of_length_le (by omega)] at this
          unfold codeGood
          simp [hr1, hr2, this]
        subst hlead
        have HG := Lib.hid hgood
        have HF := Lib.hid hf.out
        clear hg hbl hall hgood hf
        obtain ⟨Y, hY, hmk2⟩ := run_make_of (P := Try.prog) 63 2 _ 1 8 (by kernel_rfl) infoInt64 xs.length (by omega) (by omega)
        go_wp2_with fail
        obtain ⟨wa, hwa⟩ : ∃ x : World, x = wr := ⟨_, rfl⟩
        subst hwa
        have G0 := BlkW.start (n := xs.length) HF.out hY (Nat.le_refl _) hb
        have HG0 := Lib.hid G0
        clear G0
        go_loopg [7, 9] xs.length (fun gk v7 i W => ∃ (j : Nat) (out : List GBlock) (at_ : List Int) (h : Hp), gk + j = xs.length ∧ i = .int .i64 j ∧ Hid (BlkInv j out at_) ∧ Hid (blkGo (((lead xs).take xs.length).drop j) j out at_ = blocks0 xs) ∧ Hid (BlkW w W w.heap.size (wa.heap.size + 1) xs.length (lead xs) at_ out v7 h))
        case atStart => exact ⟨0, [], [], _, by omega, rfl, BlkInv.start, rfl, HG0.out⟩
        case round =>
          obtain ⟨j2, out, at_, h, hkj2, rfl, hinv, hgo, hB⟩ := hrel
          clear HG0 hmk2 hY
          by_cases hlt2 : j2 < xs.length
          · have HI := Lib.hid hinv.out
            have HBW := Lib.hid hB.out
            clear hinv hB
            have hll : j2 < (lead xs).length := by rw [lead_len]; omega
            have hfl : j2 < ((lead xs).take xs.length).length := by rw [List.length_take, lead_len]; omega
            have hst : blkGo (((lead xs).take xs.length).drop (j2 + 1)) (j2 + 1) (blkOut out j2 (lead xs)[j2]) (at_ ++ [((blkOut out j2 (lead xs)[j2]).length : Int) - 1]) = blocks0 xs := by
              have := hgo.out
              rw [List.drop_eq_getElem_cons hfl, blkGo, List.getElem_take] at this
              exact this
            have HST := Lib.hid hst
            clear hgo hst
            have d0 := HBW.out.fl.cell j2 hll
            have fr0 := HBW.out.fl.free j2
            have hnz : (lead xs)[j2] = true ∨ out ≠ [] := by
              rcases Nat.eq_zero_or_pos j2 with h0 | h0
              · subst h0
                have := lead_0 xs
                exact .inl (List.getElem?_eq_some_iff.1 this).2
              · exact .inr (HI.out.ne h0)
            obtain ⟨o, bl, hob, hbo⟩ := blkOut_form out j2 (lead xs)[j2] hnz
            have hob2 := Lib.hid hob
            have HBO := Lib.hid hbo
            clear hbo hnz
            have hal := HI.out.len
            have hole : out.length ≤ xs.length := by have := HI.out.le; omega
            go_upto_if 73 with (fail)
            go_cut [7] (fun v7 W2 => ∃ h2, Hid (BlkW w W2 w.heap.size (wa.heap.size + 1) xs.length (lead xs) at_ (o ++ [bl]) v7 h2))
            case first =>
              cases hfb : (lead xs)[j2] with
              | true =>
                rw [hfb] at d0 hob
                have HOB := Lib.hid hob
                clear hob
                go_wp2_with (at_builtin; (refine wpList_append_lay rfl _ _ 31 92 rfl _ 3 40 (by kernel_rfl) infoBlk (by kernel_rfl) (by omega) _ (out.map GBlock.d) h (by rfl) (by rfl) HBW.out.out.lay HBW.out.out.in_ HBW.out.out.nd (GBlock.d ⟨j2, 0, []⟩) [.int .i64 j2, .int .i64 0, .slice none 0 0] [] (GBlock.lay_ (x := ⟨j2, 0, []⟩) (lay_nil _ _)) rfl (by simp [Value.oneCell']) (In.nil _) List.nodup_nil (fun _ h => nomatch h) (by simp; omega) (by unfold maxLen; simp; omega) ?_); intro v' w' h' la hi' hnd' hnew hu)
                go_meet
                have B2 := HBW.out.app la hi' hnd' hnew hu
                have h3 := HOB.out
                simp only [reduceIte] at h3
                rw [h3] at B2
                exact ⟨h', Lib.hid B2⟩
              | false =>
                rw [hfb] at d0 hob
                have HOB := Lib.hid hob
                clear hob
                go_wp2_with fail
                go_meet
                have B2 := HBW.out
                have h3 := HOB.out
                simp only [reduceIte, Bool.false_eq_true] at h3
                rw [h3] at B2
                exact ⟨h, Lib.hid B2⟩
            case rest =>
              obtain ⟨h2, hB2⟩ := hcut
              have B2 := hB2.out
              clear hB2 HBW d0 fr0 hob
              obtain ⟨y0, e0⟩ := B2.at_.cell j2 hlt2
              have fe0 := B2.at_.free j2
              have B3 := B2.push (by omega) ((o.length : Int))
              rw [hal] at B3
              obtain ⟨g, cp, A3, p3, hb3, rfl, hcp1, hcp2, hgw, m0, m1, m2, mf, _, _, _, hset, _⟩ := B3.mid
              simp only [List.length_nil, Nat.add_zero] at hcp1 ⊢
              have HSET := Lib.hid hset
              clear hset B2 B3
              have hol : o.length < xs.length := by
                have h1 := congrArg List.length hob2.out
                have h2 := HI.out.le
                split at h1 <;> simp at h1 <;> omega
              go_wp2_with fail
              go_roundg (gk - 1)
              case measure => omega
              case rel =>
                obtain ⟨h5, B5⟩ := HSET.out j2
                simp only [List.length_nil, Nat.add_zero] at B5
                have e1 : ((blkOut out j2 (lead xs)[j2]).length : Int) - 1 = o.length := by rw [HBO.out]; simp
                have hz : (lead xs)[j2] = true ∨ 0 < j2 := by
                  rcases Nat.eq_zero_or_pos j2 with h0 | h0
                  · subst h0
                    exact .inl (List.getElem?_eq_some_iff.1 (lead_0 xs)).2
                  · exact .inr h0
                have V := HI.out.step (lead xs)[j2] hz
                have GO := HST.out
                rw [e1, HBO.out] at V GO
                exact ⟨j2 + 1, _, _, h5, by omega, by go_num, V, GO, B5⟩
          · have hj2 : j2 = xs.length := by omega
            subst hj2
            have hb0 : (out, at_) = blocks0 xs := by
              have := hgo.out
              rw [List.drop_eq_nil_of_le (by rw [List.length_take]; omega), blkGo] at this
              exact this
            have HI := Lib.hid hinv.out
            have HBW := Lib.hid hB.out
            have HB0 := Lib.hid hb0
            have hone := HI.out.ne (by omega)
            have hole : out.length ≤ xs.length := by have := HI.out.le; omega
            have hopos : 0 < out.length := Nat.pos_of_ne_zero (fun h => hone (List.eq_nil_of_length_eq_zero h))
            clear hinv hB hgo hb0
            rcases lay_form HBW.out.out.lay with ⟨_, hx, _⟩ | ⟨g, cp, rfl⟩
            · exact absurd (List.map_eq_nil_iff.1 hx) hone
            rw [List.length_map] at HBW
            simp only [List.length_map]
            obtain ⟨wb, hwb⟩ : ∃ x : World, x = wr := ⟨_, rfl⟩
            subst hwb
            go_wp2_with fail
            go_loopg [94] out.length (fun gk i W => ∃ (q : Nat) (h3 : Hp), gk + q = out.length ∧ i = .int .i64 q ∧ Hid (BlkW w W w.heap.size (wa.heap.size + 1) xs.length (lead xs) at_ ((finL xs out.length at_ out 0).take q ++ out.drop q) (.slice (some ⟨g, 0, none⟩) out.length cp) h3))
            case atStart => exact ⟨0, _, by omega, rfl, by unfold Hid; simpa using HBW.out⟩
            case round =>
              obtain ⟨q, h3, hkq, rfl, hB3⟩ := hrel
              clear HBW
              by_cases hlt3 : q < out.length
              · obtain ⟨l1, l2, _, l4⟩ := HI.out.last q out[q] (List.getElem?_eq_getElem hlt3)
                have hnx := HI.out.nx out[q] (List.getElem_mem hlt3)
                obtain ⟨c, hc⟩ : ∃ c : Nat, out[q].last = (c : Int) := ⟨out[q].last.toNat, by omega⟩
                have hcl : c < xs.length := by omega
                have hdr : (finL xs out.length at_ out 0).take q ++ out.drop q = (finL xs out.length at_ out 0).take q ++ (⟨out[q].first, c, []⟩ :: out.drop (q+1)) := by
                  rw [List.drop_eq_getElem_cons hlt3, ← hc, ← hnx]
                have hl1 : ((finL xs out.length at_ out 0).take q).length = q := by rw [List.length_take, finL_len]; omega
                have hst3 := finL_step xs out.length at_ out q hlt3
                rw [hc, Int.toNat_natCast, show xs.getD c zI = xs[c] by simp [hcl]] at hst3
                have HST3 := Lib.hid hst3
                have HLA := Lib.hid l4
                clear hst3 l4
                generalize (finL xs out.length at_ out 0).take q = fin at hdr hl1 hB3 HST3
                have hrst : ∃ r, out.drop (q + 1) = r := ⟨_, rfl⟩
                obtain ⟨rst, hrst⟩ := hrst
                rw [hrst] at hdr
                have HRST := Lib.hid hrst
                clear hrst
                have B3 := hB3.out
                rw [hdr] at B3
                clear hB3 hdr
                obtain ⟨bc, oc, rfl, k0, k1, k2, k3⟩ := HE.out c hcl
                have hbc : bc < w.heap.size := World.block_lt_of_cell? w _ k0
                have hrun : ∀ w' : World, Below w.heap.size w w' → w'.cell? ⟨bc, oc + c * 4, none⟩ = some (.int .i64 xs[c].op) ∧ w'.cell? ⟨bc, oc + c * 4 + 3, none⟩ = some (.int .i64 xs[c].c) := fun w' hw => ⟨Below.cell' hw k0, Below.cell' hw k3⟩
                have HR := Lib.hid hrun
                clear hrun k0 k1 k2 k3
                obtain ⟨c0, c3⟩ := HR.out _ B3.below
                obtain ⟨g', cp', A3, p3, hb3, hv3, hcp1, hcp2, hgw, m0, m1, m2, mf, ly, lin, lnd, _, hput⟩ := B3.mid
                injection hv3 with e1 e2 e3
                injection e1 with e1
                injection e1 with e1
                subst e1 e3
                have E2 := Lib.hid e2
                clear e2
                rw [hl1] at m0 m1 m2 hput
                simp only [List.length_nil] at m2
                simp only [List.length_nil, List.map_nil] at ly
                have HPUT := Lib.hid hput
                have HB3 := Lib.hid B3
                have LY := Lib.hid ly
                have LIN := Lib.hid lin
                have LND := Lib.hid lnd
                have HL1 := Lib.hid hl1
                clear hput B3 ly lin lnd hnx hc hl1
                obtain ⟨y1, hy1⟩ : ∃ y : List Int, y = if xs[c].op ≠ 25 ∧ xs[c].op ≠ 29 ∧ q + 1 < out.length then [(q : Int) + 1] else [] := ⟨_, rfl⟩
                have HY := Lib.hid hy1
                clear hy1
                go_upto_region 30 with (fail)
                go_cut [122] (fun v122 W2 => v122 = .bool (decide (xs[c].op ≠ 25 ∧ xs[c].op ≠ 29 ∧ q + 1 < out.length)) ∧ wr = W2)
                case first =>
                  go_wp2_with fail
                  all_goals
                    go_meet
                    refine ⟨congrArg Value.bool ?_, rfl⟩
                    clear m0 m1 m2 mf c0 c3
                    go_light
                    rw [Bool.eq_iff_iff]
                    first | (simp; done) | (simp; omega) | (simp [*]; done) | (simp [*]; omega) | trace_state
                case rest =>
                obtain ⟨rfl, rfl⟩ := hcut
                go_upto_if 122 with (fail)
                go_cut [133] (fun v133 W2 => ∃ h4, Hid (BlkW w W2 w.heap.size (wa.heap.size + 1) xs.length (lead xs) at_ (fin ++ ⟨out[q].first, c, y1⟩ :: rst) (.slice (some ⟨g, 0, none⟩) out.length cp) h4))
                case first =>
                  by_cases tt : xs[c].op ≠ 25 ∧ xs[c].op ≠ 29 ∧ q + 1 < out.length
                  · have hy : y1 = [(q : Int) + 1] := by rw [HY.out, if_pos tt]
                    have HYY := Lib.hid hy
                    rw [decide_eq_true tt]
                    clear hy tt
                    go_wp2_with (at_builtin; (refine wpList_append_lay rfl _ _ 63 2 rfl _ 1 8 (by kernel_rfl) infoInt64 (by kernel_rfl) (by omega) _ [] hb3 (by rfl) (by rfl) LY.out LIN.out LND.out (D.int .i64 ((q : Int) + 1)) [.int .i64 ((q : Int) + 1)] [] lay_int rfl (by simp [Value.oneCell']) (In.nil _) List.nodup_nil (fun _ h => nomatch h) (by simp) (by unfold maxLen; simp) ?_); intro v' w' h' la hi' hnd' hnew hu; obtain ⟨A5, p5, rfl⟩ := lay_sl_any la; obtain ⟨s1, s2, h4, B4⟩ := HPUT.out _ w' h' [(q : Int) + 1] la hi' hnd' (fun b hb => (hnew b hb).imp id (fun h => h.elim (fun h => nomatch h) id)) hu; have HB4 := Lib.hid B4; clear B4 la hi' hnd' hnew hu)
                    go_meet
                    rw [HYY.out]
                    exact ⟨h4, HB4⟩
                  · have hy : y1 = [] := by rw [HY.out, if_neg tt]
                    have HYY := Lib.hid hy
                    rw [decide_eq_false tt]
                    clear hy tt
                    go_wp2_with fail
                    go_meet
                    rw [HYY.out]
                    exact ⟨h3, HB3⟩
                case rest =>
                  obtain ⟨h4, hB4⟩ := hcut
                  have HB4 := Lib.hid hB4.out
                  clear hB4 HPUT HB3 LY LIN LND m0 m1 m2 mf
                  obtain ⟨c0, c3⟩ := HR.out _ HB4.out.below
                  have hnm : ∀ nq : Nat, Calls Try.prog 50 #[.pointer (some ⟨bc, oc + c * 4, none⟩)] (wc.drewN nq) fun e w' => e = .returned (.bool (goes xs[c])) ∧ w' = wc.drewN nq := fun nq => names_quiet _ _ _ _ (HR.out _ (below_drewN HB4.out.below nq)).1
                  have hic : inCode xs.length xs[c] = true := by
                    have := HG.out
                    unfold codeGood at this
                    simp only [Bool.and_eq_true] at this
                    exact List.all_eq_true.1 this.2 _ (List.getElem_mem hcl)
                  have HIC := Lib.hid hic
                  have hcn : ∃ t : Nat, goes xs[c] = true → xs[c].c = (t : Int) ∧ t < xs.length := by
                    cases hgo : goes xs[c] with
                    | false => exact ⟨0, fun h => by cases h⟩
                    | true =>
                      have h1 := hic
                      unfold inCode at h1
                      rw [hgo] at h1
                      simp at h1
                      exact ⟨xs[c].c.toNat, fun _ => ⟨by omega, by omega⟩⟩
                  clear hic
                  obtain ⟨t, htt⟩ := hcn
                  have HTT := Lib.hid htt
                  have hyy : y1 = [] ∨ y1 = [(q : Int) + 1] := by rw [HY.out]; split <;> simp
                  have HYY := Lib.hid hyy
                  have hal : at_.length = xs.length := HI.out.len
                  have HAL := Lib.hid hal
                  clear htt hyy hal
                  obtain ⟨g5, cp5, A4, p4, hb4, hv4, _, _, _, m0, m1, m2, mf, ly4, lin4, lnd4, _, hput4⟩ := HB4.out.mid
                  injection hv4 with e1 e2 e3
                  injection e1 with e1
                  injection e1 with e1
                  subst e1 e3
                  clear e2
                  rw [HL1.out] at m0 m1 m2 hput4
                  have HPUT4 := Lib.hid hput4
                  have LY4 := Lib.hid ly4
                  have LIN4 := Lib.hid lin4
                  have LND4 := Lib.hid lnd4
                  clear hput4 ly4 lin4 lnd4
                  go_upto_region 32 with (fail)
                  go_cut [163] (fun v163 W3 => v163 = .bool (decide (goes xs[c] = true ∧ (y1 = [] ∨ y1 ≠ [at_.getD t 0]))) ∧ ∃ nq : Nat, wc.drewN nq = W3)
                  case first =>
                    cases hgo : goes xs[c] with
                    | false =>
                      rw [hgo] at hnm
                      have HGO := Lib.hid hgo
                      clear hgo
                      go_quiet ((go_at_call 50; refine Calls.quiet_of_same (hnm _)))
                      go_wp2_with fail
                      go_meet
                      exact ⟨by simp [HGO.out], _, rfl⟩
                    | true =>
                      rw [hgo] at hnm
                      have HGO := Lib.hid hgo
                      obtain ⟨h1, h2⟩ := HTT.out hgo
                      clear hgo
                      have a0 := HB4.out.at_.get t (by rw [HAL.out]; exact h2)
                      have hgd : at_.getD t 0 = at_[t]'(by rw [HAL.out]; exact h2) := by rw [List.getD_eq_getElem?_getD, List.getElem?_eq_getElem]; rfl
                      have HGD := Lib.hid hgd
                      clear hgd
                      rw [h1] at c3
                      clear h1
                      rcases HYY.out with rfl | rfl
                      · go_quiet ((go_at_call 50; refine Calls.quiet_of_same (hnm _)))
                        go_wp2_with fail
                        go_meet
                        exact ⟨by simp [HGO.out], _, rfl⟩
                      · obtain ⟨A6, p6, hv6, _, hel6⟩ := ints_open (xs := [(q : Int) + 1]) (Lay.rd _ _ _ LY4.out LIN4.out)
                        injection hv6 with e1 e2 e3
                        subst e1
                        clear e2 e3
                        obtain ⟨b6, o6, rfl, k6⟩ := hel6 0 (by simp)
                        clear hel6
                        simp only [List.getElem_cons_zero, Nat.add_zero] at k6
                        simp only [List.length_singleton] at m2
                        go_quiet ((go_at_call 50; refine Calls.quiet_of_same (hnm _)))
                        go_wp2_with fail
                        all_goals
                          go_meet
                          refine ⟨congrArg Value.bool ?_, _, rfl⟩
                          rw [HGD.out, HGO.out, Bool.eq_iff_iff]
                          clear m0 m1 m2 mf c0 c3
                          go_light
                          first | (simp; done) | (simp [*]; done) | (simp; omega)
                  case rest =>
                  obtain ⟨rfl, nq, rfl⟩ := hcut
                  have hB5 : ∃ h5, BlkW w (wc.drewN nq) w.heap.size (wa.heap.size + 1) xs.length (lead xs) at_ (fin ++ ⟨out[q].first, c, y1⟩ :: rst) (.slice (some ⟨g, 0, none⟩) out.length cp) h5 := ⟨h4, HB4.out.same (below_drewN (Below.refl _ _) nq)⟩
                  clear hnm m0 m1 m2 mf c0 c3 HPUT4 LY4 LIN4 LND4 HB4
                  generalize wc.drewN nq = W5 at hB5 ⊢
                  obtain ⟨h5, hB5⟩ := hB5
                  have HB5 := Lib.hid hB5
                  clear hB5
                  go_upto_if 163 with (fail)
                  by_cases tt : goes xs[c] = true ∧ (y1 = [] ∨ y1 ≠ [at_.getD t 0])
                  · obtain ⟨h1, h2⟩ := HTT.out tt.1
                    have hy : nextOf out.length at_ q xs[c] = y1 ++ [at_.getD t 0] := by
                      rw [nextOf_eq out.length at_ q xs[c] t (at_.getD t 0) (fun h => (HTT.out h).1) (fun _ => rfl) y1 HY.out, if_pos tt]
                    have HN2 := Lib.hid hy
                    rw [decide_eq_true tt]
                    have a0 := HB5.out.at_.get t (by rw [HAL.out]; exact h2)
                    have hgd : at_.getD t 0 = at_[t]'(by rw [HAL.out]; exact h2) := by rw [List.getD_eq_getElem?_getD, List.getElem?_eq_getElem]; rfl
                    have HGD := Lib.hid hgd
                    clear hgd tt hy
                    obtain ⟨c0, c3⟩ := HR.out _ HB5.out.below
                    rw [h1] at c3
                    clear h1
                    have hB7 := HB5.out.same (below_drew (Below.refl _ _))
                    have HB7 := Lib.hid hB7
                    clear hB7
                    have hyl : y1.length ≤ 1 := by rcases HYY.out with h | h <;> rw [h] <;> simp
                    obtain ⟨g5, cp5, A4, p4, hb4, hv4, _, _, _, n0, n1, n2, nf, ly4, lin4, lnd4, _, hput4, hne4⟩ := HB7.out.mid2
                    injection hv4 with e1 e2 e3
                    injection e1 with e1
                    injection e1 with e1
                    subst e1 e3
                    clear e2
                    rw [HL1.out] at n0 n1 n2 hput4
                    have m2 : W5.cell? ⟨g, q * 3 + 2, none⟩ = some (.slice A4 y1.length p4) := n2
                    have HPUT4 := Lib.hid hput4
                    have LY4 := Lib.hid ly4
                    have LIN4 := Lib.hid lin4
                    have LND4 := Lib.hid lnd4
                    have hatl : t < at_.length := by rw [HAL.out]; exact h2
                    clear hput4 ly4 lin4 lnd4 n0 n1 n2 nf HB5 HB7 hne4 c0
                    have t1 : (t : Int) < (xs.length : Int) := by omega
                    have q0 : (q : Int) < (out.length : Int) := by omega
                    have t0 : (0 : Int) ≤ (t : Int) := Int.natCast_nonneg _
                    have q1 : (0 : Int) ≤ (q : Int) := Int.natCast_nonneg _
                    go_wp2_with fail
                    have m2' : (W5.alloc (.cells #[.int .i64 (at_[t]'hatl)] 2)).cell? ⟨g, q * 3 + 2, none⟩ = some (.slice A4 y1.length p4) := Below.cell' (below_box _) m2
                    go_region_law
                      ((refine step_append_lays (by rfl) _ _ 63 2 (by rfl) _ 1 8 (by kernel_rfl) infoInt64 (by kernel_rfl) (by omega) _ (y1.map (D.int .i64)) hb4 (by rfl) LY4.out (LIN4.out.below (below_box _)) LND4.out _ [D.int .i64 (at_[t]'hatl)] [.int .i64 (at_[t]'hatl)] [] (by rfl) (Src.box (heap_alloc_new _ _) (by simp)) (LayRow.one lay_int rfl) (by simp [Value.oneCell']) (In.nil _) List.nodup_nil (fun _ h => nomatch h) (by simp; omega) (by unfold maxLen; simp; omega) ?_; intro v' w' h' hA; obtain ⟨A5, p5, rfl⟩ := lay_sl_any hA.lay; obtain ⟨s1, s2, h4', B4⟩ := HPUT4.out _ w' h' (y1 ++ [at_[t]'hatl]) (by rw [List.map_append]; exact hA.lay) hA.in_ hA.nd (fun b hb => (hA.new b hb).imp id (fun h => h.elim (fun h => nomatch h) (fun h => by show W5.heap.size ≤ b; simp at h; omega))) ((Upd.of_below (below_box _) _).trans' hA.upd); have HB4' := Lib.hid B4; clear B4))
                    all_goals
                      go_wp2_with fail
                      go_roundg (gk - 1)
                      case measure => omega
                      case rel =>
                        refine ⟨q + 1, h4', by omega, by go_num, ?_⟩
                        unfold Hid
                        rw [HST3.out, List.append_assoc, HRST.out, HN2.out, HGD.out]
                        have BB := HB4'.out
                        simp only [List.length_append, List.length_map, List.length_singleton] at BB
                        exact BB
                  · have hy : nextOf out.length at_ q xs[c] = y1 := by
                      rw [nextOf_eq out.length at_ q xs[c] t (at_.getD t 0) (fun h => (HTT.out h).1) (fun _ => rfl) y1 HY.out, if_neg tt]
                    have HN2 := Lib.hid hy
                    rw [decide_eq_false tt]
                    clear hy tt
                    go_wp2_with fail
                    go_roundg (gk - 1)
                    case measure => omega
                    case rel =>
                      refine ⟨q + 1, h5, by omega, by go_num, ?_⟩
                      unfold Hid
                      rw [HST3.out, List.append_assoc, HRST.out, HN2.out]
                      exact HB5.out
              · have hqe : q = out.length := by omega
                subst hqe
                have B := hB3.out
                rw [List.drop_eq_nil_of_le (Nat.le_refl _), List.append_nil, List.take_of_length_le (by rw [finL_len]; exact Nat.le_refl _)] at B
                have HBF := Lib.hid B
                clear hB3 B
                go_wp2_with fail
                go_ret
                refine ⟨_, h3, rfl, ?_, HBF.out.below⟩
                rw [blocksOf_good xs HG.out, ← HB0.out]
                exact HBF.out.out
  · have HF := Lib.hid (bad_len xs hr)
    go_wp2_with fail
    all_goals
      go_ret
      first
      | exact ⟨_, [], rfl, by rw [HF.out]; exact HN.out _, Below.refl _ _⟩
      | exact ⟨_, rfl, ⟨[], by rw [HF.out]; exact HN.out _⟩, Below.refl _ _⟩
end Go.Proofs.Ytedlhhhfifdnfaa
