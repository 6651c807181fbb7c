/- BlocksOf: the law's walk. -/
import Derived.Test.YtedlhhhfifdnfaaProg
import Derived.Test.YtedlhhhfifdnfaaGen
import Derived.WalkKit
import Derived.Outline
import Derived.Deep.LoopGhost
import Derived.Deep.DeepCutAuto
import Derived.Deep.CutBlock
import Derived.Deep.Light
import Derived.Deep.QuietTactic
import Derived.BigQuiet
import Derived.StillTailTactics
import Derived.KernelRfl
import Derived.IntWalk
import Derived.Deep.DeepMust
import Derived.Lib.Hide
import Derived.Test.YtedlhhhfifdnfaaBl3
import Derived.Test.YtedlhhhfifdnfaaBl5
import Derived.Test.YtedlhhhfifdnfaaGS
import Derived.Test.YtedlhhhfifdnfaaGT
set_option linter.unusedVariables false
set_option linter.unusedSimpArgs false
namespace Go.Proofs.Ytedlhhhfifdnfaa
open Go.RowKit
def GInstr.Hd (x : GInstr) (k k2 : Int) : Prop := x.op = k ∧ x.a = k + 1 ∧ x.b = k + 1 + 1 ∧ x.c = k + 1 + 1 + 1 ∧ k2 = k + 1 + 1 + 1 + 1
theorem GInstr.Hd_mono (x : GInstr) (k k2 : Int) (h : GInstr.Hd x k k2) : k ≤ k2 := by
  unfold GInstr.Hd at h
  obtain ⟨_, _, _, _, rfl⟩ := h
  omega
def GBlock.Hd (x : GBlock) (k k2 : Int) : Prop := x.first = k ∧ x.last = k + 1 ∧ ∃ t1, HdL HdI x.next (k + 1 + 1) t1 ∧ k2 = t1
theorem GBlock.Hd_mono (x : GBlock) (k k2 : Int) (h : GBlock.Hd x k k2) : k ≤ k2 := by
  unfold GBlock.Hd at h
  obtain ⟨_, _, t1, a1, rfl⟩ := h
  have b1 := HdL.mono HdI.mono _ _ _ a1
  omega
set_option maxRecDepth 100000 in
set_option maxHeartbeats 1000000 in
theorem markInt64S (xs : List Int) (v : Value) (h : Hp) (k : Int) (w : World) (hl : Lay (D.slice 2 1 (xs.map (D.int .i64))) [v] h) (hin : In w h) (hnd : h.bs.Nodup) (h0 : 0 ≤ k) (hk : k + 8 * (xs.length + D.cnts (xs.map (D.int .i64))) ≤ 1125899906842624) :
    Calls Try.prog 34 #[v, .int .i64 k] w fun e w' => ∃ (ys : List Int) (k2 : Int) (h' : Hp), e = .returned (.int .i64 k2) ∧ HdL HdI ys k k2 ∧ k2 ≤ k + 8 * (xs.length + D.cnts (xs.map (D.int .i64))) ∧ Lay (D.slice 2 1 (ys.map (D.int .i64))) [v] h' ∧ h'.bs = h.bs ∧ In w' h' ∧ Upd (fun b => b ∈ h.bs) w w' := by
  rcases lay_form hl with ⟨rfl, hx, rfl⟩ | ⟨g, cap, rfl⟩
  · have hx' : xs = [] := List.map_eq_nil_iff.1 hx
    subst hx'
    go_enter Try.func34, Try.ntmps34
    go_wp2_with fail
    go_loopg [1, 5] 0 (fun gk l i wr => i = .int .i64 0 ∧ l = .int .i64 k ∧ w = wr)
    case atStart => exact ⟨rfl, rfl, rfl⟩
    case round =>
      obtain ⟨rfl, rfl, rfl⟩ := hrel
      go_wp2_with fail
      go_ret
      exact ⟨[], k, [], rfl, rfl, by simp only [List.length_nil, List.map_nil, D.cnts]; omega, hl, rfl, In.nil _, Upd.refl _ _⟩
  · obtain ⟨hs, cur, rfl, _, hm, m0⟩ := MkSt.start hl hin hnd
    rw [List.length_map] at m0 ⊢
    have M0 := Lib.hid m0
    clear hl hin hnd m0
    go_enter Try.func34, Try.ntmps34
    go_wp2_with fail
    go_loopg [1, 5] xs.length (fun gk l i wr => ∃ (j : Nat) (q : Int) (ys : List Int) (h1 h2 : Hp), gk + j = xs.length ∧ i = .int .i64 j ∧ l = .int .i64 q ∧ Hid (ys.length = j) ∧ 0 ≤ q ∧ Hid (HdL HdI ys k q) ∧ q + 8 * (gk + D.cnts ((xs.map (D.int .i64)).drop j)) ≤ k + 8 * (xs.length + D.cnts (xs.map (D.int .i64))) ∧ Hid (MkSt w wr g 2 1 xs.length cap hs (ys.map (D.int .i64)) ((xs.map (D.int .i64)).drop j) h1 h2))
    case atStart => exact ⟨0, k, [], [], hs, by omega, rfl, rfl, rfl, h0, rfl, by rw [List.drop_zero]; omega, by rw [List.drop_zero]; exact M0.out⟩
    case round =>
      obtain ⟨j, q, ys, h1, h2, hkj, rfl, rfl, hyl, hq0, hhd, hq, m⟩ := hrel
      have HH := Lib.hid hhd
      clear hhd
      by_cases hlt : j < xs.length
      · have hdr : (xs.map (D.int .i64)).drop j = (D.int .i64) xs[j] :: (xs.map (D.int .i64)).drop (j + 1) := by rw [List.drop_eq_getElem_cons (by rw [List.length_map]; exact hlt), List.getElem_map]
        have hcd := cnts_map_drop (D.int .i64) xs j hlt
        have m := m.out
        rw [hdr] at m
        obtain ⟨cx, hx, h3, lx, el⟩ := m.open_
        have lx' := lx
        simp only [Lay] at lx'
        obtain ⟨rfl, rfl⟩ := lx'
        simp only [D.cnt, Nat.zero_add] at hcd
        have c0 := el.at' (i := 0) (off := j) (by simp [hyl.out]) rfl
        have fr := el.free
        have EL := Lib.hid el
        have HD := Lib.hid hdr
        have HC := Lib.hid hcd
        clear el hdr m lx hcd
        go_wp2_with fail
        go_roundg (gk - 1)
        case measure => omega
        case rel =>
          have st := (EL.out.set' 0 (off := j) (.int .i64 q) (by simp [hyl.out]) (by omega)).close (x := D.int .i64 q) (by exact lay_int)
          refine ⟨j + 1, _, ys ++ [q], h1 ++ [], h3, by omega, by go_num, rfl, by unfold Hid; rw [List.length_append, hyl.out]; rfl, by omega, ?_, ?_, ?_⟩
          · unfold Hid
            exact HdL.snoc (k1 := q) ⟨rfl, rfl⟩ ys k HH.out.out
          · have := HC.out
            omega
          · unfold Hid
            rw [List.map_append]
            exact st
      · have hdn : (xs.map (D.int .i64)).drop j = [] := List.drop_eq_nil_of_le (by rw [List.length_map]; omega)
        have m := m.out
        rw [hdn] at m hq
        have M := Lib.hid m
        clear m hdn
        go_wp2_with fail
        go_ret
        obtain ⟨h', la, hb, hi, hu⟩ := M.out.done (cur0 := cur) hm
        have hyn : (ys.map (D.int .i64)).length = xs.length := by rw [List.length_map, hyl.out]; omega
        exact ⟨ys, q, h', rfl, HH.out.out, by simp only [D.cnts] at hq; omega, la, hb, hi, hu⟩
set_option maxRecDepth 100000 in
set_option maxHeartbeats 1000000 in
theorem markInstrS (xs : List GInstr) (v : Value) (h : Hp) (k : Int) (w : World) (hl : Lay (D.slice 90 4 (xs.map GInstr.d)) [v] h) (hin : In w h) (hnd : h.bs.Nodup) (h0 : 0 ≤ k) (hk : k + 8 * (xs.length + D.cnts (xs.map GInstr.d)) ≤ 1125899906842624) :
    Calls Try.prog 19 #[v, .int .i64 k] w fun e w' => ∃ (ys : List GInstr) (k2 : Int) (h' : Hp), e = .returned (.int .i64 k2) ∧ HdL GInstr.Hd ys k k2 ∧ k2 ≤ k + 8 * (xs.length + D.cnts (xs.map GInstr.d)) ∧ Lay (D.slice 90 4 (ys.map GInstr.d)) [v] h' ∧ h'.bs = h.bs ∧ In w' h' ∧ Upd (fun b => b ∈ h.bs) w w' := by
  rcases lay_form hl with ⟨rfl, hx, rfl⟩ | ⟨g, cap, rfl⟩
  · have hx' : xs = [] := List.map_eq_nil_iff.1 hx
    subst hx'
    go_enter Try.func19, Try.ntmps19
    go_wp2_with fail
    go_loopg [1, 5] 0 (fun gk l i wr => i = .int .i64 0 ∧ l = .int .i64 k ∧ w = wr)
    case atStart => exact ⟨rfl, rfl, rfl⟩
    case round =>
      obtain ⟨rfl, rfl, rfl⟩ := hrel
      go_wp2_with fail
      go_ret
      exact ⟨[], k, [], rfl, rfl, by simp only [List.length_nil, List.map_nil, D.cnts]; omega, hl, rfl, In.nil _, Upd.refl _ _⟩
  · obtain ⟨hs, cur, rfl, _, hm, m0⟩ := MkSt.start hl hin hnd
    rw [List.length_map] at m0 ⊢
    have M0 := Lib.hid m0
    clear hl hin hnd m0
    go_enter Try.func19, Try.ntmps19
    go_wp2_with fail
    go_loopg [1, 5] xs.length (fun gk l i wr => ∃ (j : Nat) (q : Int) (ys : List GInstr) (h1 h2 : Hp), gk + j = xs.length ∧ i = .int .i64 j ∧ l = .int .i64 q ∧ Hid (ys.length = j) ∧ 0 ≤ q ∧ Hid (HdL GInstr.Hd ys k q) ∧ q + 8 * (gk + D.cnts ((xs.map GInstr.d).drop j)) ≤ k + 8 * (xs.length + D.cnts (xs.map GInstr.d)) ∧ Hid (MkSt w wr g 90 4 xs.length cap hs (ys.map GInstr.d) ((xs.map GInstr.d).drop j) h1 h2))
    case atStart => exact ⟨0, k, [], [], hs, by omega, rfl, rfl, rfl, h0, rfl, by rw [List.drop_zero]; omega, by rw [List.drop_zero]; exact M0.out⟩
    case round =>
      obtain ⟨j, q, ys, h1, h2, hkj, rfl, rfl, hyl, hq0, hhd, hq, m⟩ := hrel
      have HH := Lib.hid hhd
      clear hhd
      by_cases hlt : j < xs.length
      · have hdr : (xs.map GInstr.d).drop j = GInstr.d xs[j] :: (xs.map GInstr.d).drop (j + 1) := by rw [List.drop_eq_getElem_cons (by rw [List.length_map]; exact hlt), List.getElem_map]
        have hcd := cnts_map_drop GInstr.d xs j hlt
        have m := m.out
        rw [hdr] at m
        obtain ⟨cx, hx, h3, lx, el⟩ := m.open_
        obtain ⟨rfl, rfl⟩ := GInstr.lay_open lx
        rw [GInstr.cnt] at hcd
        have c0 := el.at' (i := 0) (off := j * 4) (by simp [hyl.out]) rfl
        have c1 := el.at' (i := 1) (off := j * 4 + 1) (by simp [hyl.out]) rfl
        have c2 := el.at' (i := 2) (off := j * 4 + 2) (by simp [hyl.out]) rfl
        have c3 := el.at' (i := 3) (off := j * 4 + 3) (by simp [hyl.out]) rfl
        have fr := el.free
        have EL := Lib.hid el
        have HD := Lib.hid hdr
        have HC := Lib.hid hcd
        clear el hdr m lx hcd
        go_wp2_with fail
        go_roundg (gk - 1)
        case measure => omega
        case rel =>
          have st := ((((EL.out.set' 0 (off := j * 4) (.int .i64 (q)) (by simp [hyl.out]) (by omega)).set' 1 (off := j * 4 + 1) (.int .i64 (q + 1)) (by simp [hyl.out]) (by omega)).set' 2 (off := j * 4 + 2) (.int .i64 (q + 1 + 1)) (by simp [hyl.out]) (by omega)).set' 3 (off := j * 4 + 3) (.int .i64 (q + 1 + 1 + 1)) (by simp [hyl.out]) (by omega)).close (x := GInstr.d (⟨q, q + 1, q + 1 + 1, q + 1 + 1 + 1⟩ : GInstr)) (by exact GInstr.lay_ (x := (⟨q, q + 1, q + 1 + 1, q + 1 + 1 + 1⟩ : GInstr)) )
          refine ⟨j + 1, _, ys ++ [(⟨q, q + 1, q + 1 + 1, q + 1 + 1 + 1⟩ : GInstr)], h1 ++ ([]), h3, by omega, by go_num, rfl, by unfold Hid; rw [List.length_append, hyl.out]; rfl, by omega, ?_, ?_, ?_⟩
          · unfold Hid
            exact HdL.snoc (k1 := q) ⟨rfl, rfl, rfl, rfl, rfl⟩ ys k HH.out.out
          · have := HC.out
            omega
          · unfold Hid
            rw [List.map_append]
            exact st
      · have hdn : (xs.map GInstr.d).drop j = [] := List.drop_eq_nil_of_le (by rw [List.length_map]; omega)
        have m := m.out
        rw [hdn] at m hq
        have M := Lib.hid m
        clear m hdn
        go_wp2_with fail
        go_ret
        obtain ⟨h', la, hb, hi, hu⟩ := M.out.done (cur0 := cur) hm
        have hyn : (ys.map GInstr.d).length = xs.length := by rw [List.length_map, hyl.out]; omega
        exact ⟨ys, q, h', rfl, HH.out.out, by simp only [D.cnts] at hq; omega, la, hb, hi, hu⟩
set_option maxRecDepth 100000 in
set_option maxHeartbeats 1000000 in
theorem markBlockS (xs : List GBlock) (v : Value) (h : Hp) (k : Int) (w : World) (hl : Lay (D.slice 92 3 (xs.map GBlock.d)) [v] h) (hin : In w h) (hnd : h.bs.Nodup) (h0 : 0 ≤ k) (hk : k + 8 * (xs.length + D.cnts (xs.map GBlock.d)) ≤ 1125899906842624) :
    Calls Try.prog 20 #[v, .int .i64 k] w fun e w' => ∃ (ys : List GBlock) (k2 : Int) (h' : Hp), e = .returned (.int .i64 k2) ∧ HdL GBlock.Hd ys k k2 ∧ k2 ≤ k + 8 * (xs.length + D.cnts (xs.map GBlock.d)) ∧ Lay (D.slice 92 3 (ys.map GBlock.d)) [v] h' ∧ h'.bs = h.bs ∧ In w' h' ∧ Upd (fun b => b ∈ h.bs) w w' := by
  rcases lay_form hl with ⟨rfl, hx, rfl⟩ | ⟨g, cap, rfl⟩
  · have hx' : xs = [] := List.map_eq_nil_iff.1 hx
    subst hx'
    go_enter Try.func20, Try.ntmps20
    go_wp2_with fail
    go_loopg [1, 5] 0 (fun gk l i wr => i = .int .i64 0 ∧ l = .int .i64 k ∧ w = wr)
    case atStart => exact ⟨rfl, rfl, rfl⟩
    case round =>
      obtain ⟨rfl, rfl, rfl⟩ := hrel
      go_wp2_with fail
      go_ret
      exact ⟨[], k, [], rfl, rfl, by simp only [List.length_nil, List.map_nil, D.cnts]; omega, hl, rfl, In.nil _, Upd.refl _ _⟩
  · obtain ⟨hs, cur, rfl, _, hm, m0⟩ := MkSt.start hl hin hnd
    rw [List.length_map] at m0 ⊢
    have M0 := Lib.hid m0
    clear hl hin hnd m0
    go_enter Try.func20, Try.ntmps20
    go_wp2_with fail
    go_loopg [1, 5] xs.length (fun gk l i wr => ∃ (j : Nat) (q : Int) (ys : List GBlock) (h1 h2 : Hp), gk + j = xs.length ∧ i = .int .i64 j ∧ l = .int .i64 q ∧ Hid (ys.length = j) ∧ 0 ≤ q ∧ Hid (HdL GBlock.Hd ys k q) ∧ q + 8 * (gk + D.cnts ((xs.map GBlock.d).drop j)) ≤ k + 8 * (xs.length + D.cnts (xs.map GBlock.d)) ∧ Hid (MkSt w wr g 92 3 xs.length cap hs (ys.map GBlock.d) ((xs.map GBlock.d).drop j) h1 h2))
    case atStart => exact ⟨0, k, [], [], hs, by omega, rfl, rfl, rfl, h0, rfl, by rw [List.drop_zero]; omega, by rw [List.drop_zero]; exact M0.out⟩
    case round =>
      obtain ⟨j, q, ys, h1, h2, hkj, rfl, rfl, hyl, hq0, hhd, hq, m⟩ := hrel
      have HH := Lib.hid hhd
      clear hhd
      by_cases hlt : j < xs.length
      · have hdr : (xs.map GBlock.d).drop j = GBlock.d xs[j] :: (xs.map GBlock.d).drop (j + 1) := by rw [List.drop_eq_getElem_cons (by rw [List.length_map]; exact hlt), List.getElem_map]
        have hcd := cnts_map_drop GBlock.d xs j hlt
        have m := m.out
        rw [hdr] at m
        obtain ⟨cx, hx, h3, lx, el⟩ := m.open_
        obtain ⟨A1, p1, _, rfl, rfl, l1⟩ := GBlock.lay_open lx
        rw [GBlock.cnt] at hcd
        have c0 := el.at' (i := 0) (off := j * 3) (by simp [hyl.out]) rfl
        have c1 := el.at' (i := 1) (off := j * 3 + 1) (by simp [hyl.out]) rfl
        have c2 := el.at' (i := 2) (off := j * 3 + 2) (by simp [hyl.out]) rfl
        have fr := el.free
        have EL := Lib.hid el
        have HD := Lib.hid hdr
        have HC := Lib.hid hcd
        clear el hdr m lx hcd
        have LL1 := Lib.hid l1
        clear l1
        have T1 := ((EL.out.set' 0 (off := j * 3) (.int .i64 (q)) (by simp [hyl.out]) (by omega)).set' 1 (off := j * 3 + 1) (.int .i64 (q + 1)) (by simp [hyl.out]) (by omega))
        have I1 := T1.inx
        have N1 : (Hp.bs hx).Nodup := by
          have hn := T1.nd
          rw [← T1.bs] at hn
          have hn := (List.nodup_append.1 (List.nodup_append.1 (List.nodup_cons.1 hn).2).2.1).1
          exact hn
        have HT1 := Lib.hid T1
        clear T1
        go_wp2_with fail
        refine (markInt64S xs[j].next _ hx (q + 1 + 1) _ LL1.out I1 N1 (by omega) (by have := HC.out; simp only [cnt_sl] at this; omega)).mono ?_
        rintro e w1 ⟨z1, t1, u1, rfl, hd1, hle1, la1, hbs1, hi1, hu1⟩
        have hmo1 := HdL.mono HdI.mono _ _ _ hd1
        have hbt1 : t1 ≤ 1125899906842624 := by have := HC.out; simp only [cnt_sl] at this; omega
        have T1 := MkEl.call (ha := []) (hb := hx) (hc := []) (by simpa only [List.nil_append, List.append_nil, List.append_assoc] using HT1.out) hu1 hi1 hbs1
        try simp only [List.nil_append, List.append_nil, List.append_assoc] at T1
        have LA1 := Lib.hid la1
        have HDD1 := Lib.hid hd1
        clear la1 hd1 hbs1 hi1 hu1 c0 c1 c2 fr
        have c0 := T1.at' (i := 0) (off := j * 3) (by simp [hyl.out]) rfl
        have c1 := T1.at' (i := 1) (off := j * 3 + 1) (by simp [hyl.out]) rfl
        have c2 := T1.at' (i := 2) (off := j * 3 + 2) (by simp [hyl.out]) rfl
        have fr := T1.free
        have EE1 := Lib.hid T1
        clear T1
        go_wp2_with fail
        go_roundg (gk - 1)
        case measure => omega
        case rel =>
          have st := EE1.out.close (x := GBlock.d (⟨q, q + 1, z1⟩ : GBlock)) (by exact GBlock.lay_ (x := (⟨q, q + 1, z1⟩ : GBlock)) LA1.out)
          refine ⟨j + 1, _, ys ++ [(⟨q, q + 1, z1⟩ : GBlock)], h1 ++ (u1), h3, by omega, by go_num, rfl, by unfold Hid; rw [List.length_append, hyl.out]; rfl, by omega, ?_, ?_, ?_⟩
          · unfold Hid
            exact HdL.snoc (k1 := q) ⟨rfl, rfl, t1, HDD1.out, rfl⟩ ys k HH.out.out
          · have := HC.out; simp only [cnt_sl] at this
            omega
          · unfold Hid
            rw [List.map_append]
            exact st
      · have hdn : (xs.map GBlock.d).drop j = [] := List.drop_eq_nil_of_le (by rw [List.length_map]; omega)
        have m := m.out
        rw [hdn] at m hq
        have M := Lib.hid m
        clear m hdn
        go_wp2_with fail
        go_ret
        obtain ⟨h', la, hb, hi, hu⟩ := M.out.done (cur0 := cur) hm
        have hyn : (ys.map GBlock.d).length = xs.length := by rw [List.length_map, hyl.out]; omega
        exact ⟨ys, q, h', rfl, HH.out.out, by simp only [D.cnts] at hq; omega, la, hb, hi, hu⟩
set_option maxRecDepth 100000 in
set_option maxHeartbeats 1000000 in
theorem heldInt64S (xs : List Int) (v : Value) (k k2 : Int) (w : World) {e0 : Nat} (hv : Rd w (D.slice e0 1 (xs.map (D.int .i64))) [v]) (hh : HdL HdI xs k k2) (h0 : 0 ≤ k) (hk : k2 ≤ 1125899906842624) :
    Calls Try.prog 35 #[v, .int .i64 k] w fun e w' => e = .returned (.int .i64 k2) ∧ Below w.heap.size w w' := by
  obtain ⟨A, cap, rfl, hl, hel⟩ := ints_open hv
  unfold maxLen at hl
  have HE := Lib.hid hel
  clear hel
  have HH := Lib.hid hh
  clear hh
  go_enter Try.func35, Try.ntmps35
  go_wp2_with fail
  go_loopg [1, 5] xs.length (fun gk l i wr => ∃ (j : Nat) (q : Int), gk + j = xs.length ∧ i = .int .i64 j ∧ l = .int .i64 q ∧ 0 ≤ q ∧ Hid (HdL HdI (xs.drop j) q k2) ∧ Below w.heap.size w wr)
  case atStart => exact ⟨0, k, by omega, rfl, rfl, h0, HH.out, Below.refl _ _⟩
  case round =>
    obtain ⟨j, q, hkj, rfl, rfl, hq0, hd, hb⟩ := hrel
    have HH2 := Lib.hid hd
    clear hd HH
    by_cases hlt : j < xs.length
    · obtain ⟨k1, hx, hrest⟩ := HdL.drop hlt HH2.out.out
      have hm := HdL.mono HdI.mono _ _ _ hrest
      have HR := Lib.hid hrest
      clear hrest
      obtain ⟨b, o, rfl, c0⟩ := HE.out j hlt
      obtain ⟨e0, rfl⟩ := hx
      rw [e0] at c0
      clear e0
      replace c0 := Below.cell' hb c0
      go_wp2_with fail
      go_roundg (gk - 1)
      case measure => omega
      case rel => exact ⟨j + 1, q + 1, by omega, by go_num, rfl, by omega, HR.out, hb⟩
    · have hdn : xs.drop j = [] := List.drop_eq_nil_of_le (by omega)
      have h3 := HH2.out.out
      rw [hdn] at h3
      have h3 : k2 = q := h3
      have H3 := Lib.hid h3
      clear h3 hdn
      go_wp2_with fail
      go_ret
      exact ⟨by rw [H3.out]; rfl, hb⟩
set_option maxRecDepth 100000 in
set_option maxHeartbeats 1000000 in
theorem heldBlockS (xs : List GBlock) (v : Value) (k k2 : Int) (w : World) {e0 : Nat} (hv : Rd w (D.slice e0 3 (xs.map GBlock.d)) [v]) (hh : HdL GBlock.Hd xs k k2) (h0 : 0 ≤ k) (hk : k2 ≤ 1125899906842624) :
    Calls Try.prog 21 #[v, .int .i64 k] w fun e w' => e = .returned (.int .i64 k2) ∧ Below w.heap.size w w' := by
  obtain ⟨A, cap, rfl, hl, hel⟩ := GBlocks.open_ hv
  unfold maxLen at hl
  have HE := Lib.hid hel
  clear hel
  have HH := Lib.hid hh
  clear hh
  go_enter Try.func21, Try.ntmps21
  go_wp2_with fail
  go_loopg [1, 5] xs.length (fun gk l i wr => ∃ (j : Nat) (q : Int), gk + j = xs.length ∧ i = .int .i64 j ∧ l = .int .i64 q ∧ 0 ≤ q ∧ Hid (HdL GBlock.Hd (xs.drop j) q k2) ∧ Below w.heap.size w wr)
  case atStart => exact ⟨0, k, by omega, rfl, rfl, h0, HH.out, Below.refl _ _⟩
  case round =>
    obtain ⟨j, q, hkj, rfl, rfl, hq0, hd, hb⟩ := hrel
    have HH2 := Lib.hid hd
    clear hd HH
    by_cases hlt : j < xs.length
    · obtain ⟨k1, hx, hrest⟩ := HdL.drop hlt HH2.out.out
      have hm := HdL.mono GBlock.Hd_mono _ _ _ hrest
      have HR := Lib.hid hrest
      clear hrest
      obtain ⟨b, o, A1, p1, rfl, c0, c1, c2, R1⟩ := HE.out j hlt
      unfold GBlock.Hd at hx
      obtain ⟨e0, e1, t1, a1, rfl⟩ := hx
      rw [e0] at c0
      rw [e1] at c1
      clear e0 e1
      have n1 := HdL.mono HdI.mono _ _ _ a1
      have K1 := Lib.hid a1
      clear a1
      have C0 := Lib.hid c0
      clear c0
      have C1 := Lib.hid c1
      clear c1
      have C2 := Lib.hid c2
      clear c2
      have d0 := Below.cell' hb C0.out
      have d1 := Below.cell' hb C1.out
      have d2 := Below.cell' hb C2.out
      go_wp2_with fail
      refine (heldInt64S xs[j].next _ _ k1 _ (R1.below hb) K1.out (by omega) (by omega)).mono ?_
      rintro e w1 ⟨rfl, hb1⟩
      have HB1 := Lib.hid (below_all hb hb1)
      clear hb1
      clear d0 d1 d2
      go_wp2_with fail
      go_roundg (gk - 1)
      case measure => omega
      case rel => exact ⟨j + 1, _, by omega, by go_num, rfl, by omega, HR.out, HB1.out⟩
    · have hdn : xs.drop j = [] := List.drop_eq_nil_of_le (by omega)
      have h3 := HH2.out.out
      rw [hdn] at h3
      have h3 : k2 = q := h3
      have H3 := Lib.hid h3
      clear h3 hdn
      go_wp2_with fail
      go_ret
      exact ⟨by rw [H3.out]; rfl, hb⟩
set_option maxRecDepth 100000 in
set_option maxHeartbeats 1000000 in
theorem eqInt64S (xs : List Int) (v v' : Value) (w : World) {e0 e1 : Nat} (hv : Rd w (D.slice e0 1 (xs.map (D.int .i64))) [v]) (hv' : Rd w (D.slice e1 1 (xs.map (D.int .i64))) [v']) :
    Calls Try.prog 32 #[v, v'] w fun e w' => e = .returned (.bool true) ∧ Below w.heap.size w w' := by
  obtain ⟨A, cap, rfl, hl, hel⟩ := ints_open hv
  obtain ⟨A', cap', rfl, _, hel'⟩ := ints_open hv'
  unfold maxLen at hl
  have HE := Lib.hid hel
  have HE' := Lib.hid hel'
  clear hel hel'
  go_enter Try.func32, Try.ntmps32
  go_wp2_with fail
  go_loopg [5] xs.length (fun k i wr => ∃ (j : Nat), k + j = xs.length ∧ i = .int .i64 j ∧ Below w.heap.size w wr)
  case atStart => exact ⟨0, by omega, rfl, Below.refl _ _⟩
  case round =>
    obtain ⟨j, hk, rfl, hb⟩ := hrel
    by_cases hlt : j < xs.length
    · obtain ⟨b, o, rfl, c0⟩ := HE.out j hlt
      obtain ⟨b', o', rfl, d0⟩ := HE'.out j hlt
      replace c0 := Below.cell' hb c0
      replace d0 := Below.cell' hb d0
      go_wp2_with fail
      go_quiet (fail)
      go_wp2_with fail
      go_roundg (gk - 1)
      case measure => omega
      case rel => exact ⟨j + 1, by omega, by go_num, below_drewN hb _⟩
    · go_wp2_with fail
      go_ret
      exact ⟨rfl, hb⟩
set_option maxRecDepth 100000 in
set_option maxHeartbeats 2000000 in
theorem eqInstr (x : GInstr) (w : World) :
    Calls Try.prog 53 #[.agg #[.int .i64 x.op, .int .i64 x.a, .int .i64 x.b, .int .i64 x.c], .agg #[.int .i64 x.op, .int .i64 x.a, .int .i64 x.b, .int .i64 x.c]] w fun e w' => e = .returned (.bool true) ∧ Below w.heap.size w w' := by
  go_enter Try.func53, Try.ntmps53
  go_wp2_with fail
  go_ret
  exact ⟨rfl, below_new (below_box _) _⟩
set_option maxRecDepth 100000 in
set_option maxHeartbeats 1000000 in
theorem eqInstrS (xs : List GInstr) (v v' : Value) (w : World) {e0 e1 : Nat} (hv : Rd w (D.slice e0 4 (xs.map GInstr.d)) [v]) (hv' : Rd w (D.slice e1 4 (xs.map GInstr.d)) [v']) :
    Calls Try.prog 18 #[v, v'] w fun e w' => e = .returned (.bool true) ∧ Below w.heap.size w w' := by
  obtain ⟨A, cap, rfl, hl, hel⟩ := GInstrs.open_ hv
  obtain ⟨A', cap', rfl, _, hel'⟩ := GInstrs.open_ hv'
  unfold maxLen at hl
  have HE := Lib.hid hel
  have HE' := Lib.hid hel'
  clear hel hel'
  go_enter Try.func18, Try.ntmps18
  go_wp2_with fail
  go_loopg [5] xs.length (fun k i wr => ∃ (j : Nat), k + j = xs.length ∧ i = .int .i64 j ∧ Below w.heap.size w wr)
  case atStart => exact ⟨0, by omega, rfl, Below.refl _ _⟩
  case round =>
    obtain ⟨j, hk, rfl, hb⟩ := hrel
    by_cases hlt : j < xs.length
    · obtain ⟨b, o, rfl, c0, c1, c2, c3⟩ := HE.out j hlt
      obtain ⟨b', o', rfl, d0, d1, d2, d3⟩ := HE'.out j hlt
      replace c0 := Below.cell' hb c0
      replace d0 := Below.cell' hb d0
      replace c1 := Below.cell' hb c1
      replace d1 := Below.cell' hb d1
      replace c2 := Below.cell' hb c2
      replace d2 := Below.cell' hb d2
      replace c3 := Below.cell' hb c3
      replace d3 := Below.cell' hb d3
      go_wp2_with fail
      go_still_tail 8, (by kernel_rfl)
      change wpList _ _ _ _ _ wr.drew
      have hd : Below w.heap.size w wr.drew := below_drew hb
      go_wp2_with fail
      refine (eqInstr xs[j]  _ ).mono ?_
      rintro e w1 ⟨rfl, hb1⟩
      have hb2 := below_all hd hb1
      go_wp2_with fail
      go_roundg (gk - 1)
      case measure => omega
      case rel => exact ⟨j + 1, by omega, by go_num, hb2⟩
    · go_wp2_with fail
      go_ret
      exact ⟨rfl, hb⟩
set_option maxRecDepth 100000 in
set_option maxHeartbeats 2000000 in
theorem eqBlock (x : GBlock) (A1 B1 : Option Addr) (p1 q1 : Nat) (w : World) (R1 : Rd w (D.slice 2 1 (x.next.map (D.int .i64))) [.slice A1 (x.next).length p1]) (Q1 : Rd w (D.slice 2 1 (x.next.map (D.int .i64))) [.slice B1 (x.next).length q1]) :
    Calls Try.prog 52 #[.agg #[.int .i64 x.first, .int .i64 x.last, .slice A1 (x.next).length p1], .agg #[.int .i64 x.first, .int .i64 x.last, .slice B1 (x.next).length q1]] w fun e w' => e = .returned (.bool true) ∧ Below w.heap.size w w' := by
  go_enter Try.func52, Try.ntmps52
  go_wp2_with fail
  have D0 := Duo.start w #[.int .i64 x.first, .int .i64 x.last, .slice A1 (x.next).length p1] #[.int .i64 x.first, .int .i64 x.last, .slice B1 (x.next).length q1] 92
  refine (eqInt64S x.next _ _ _ (R1.below D0.below) (Q1.below D0.below)).mono ?_
  rintro e w1 ⟨rfl, hb1⟩
  have D1 := D0.call hb1
  clear hb1
  have HD1 := Lib.hid D1
  clear D1
  go_wp2_with fail
  go_ret
  exact ⟨rfl, HD1.out.below⟩
set_option maxRecDepth 100000 in
set_option maxHeartbeats 1000000 in
theorem eqBlockS (xs : List GBlock) (v v' : Value) (w : World) {e0 e1 : Nat} (hv : Rd w (D.slice e0 3 (xs.map GBlock.d)) [v]) (hv' : Rd w (D.slice e1 3 (xs.map GBlock.d)) [v']) :
    Calls Try.prog 17 #[v, v'] w fun e w' => e = .returned (.bool true) ∧ Below w.heap.size w w' := by
  obtain ⟨A, cap, rfl, hl, hel⟩ := GBlocks.open_ hv
  obtain ⟨A', cap', rfl, _, hel'⟩ := GBlocks.open_ hv'
  unfold maxLen at hl
  have HE := Lib.hid hel
  have HE' := Lib.hid hel'
  clear hel hel'
  go_enter Try.func17, Try.ntmps17
  go_wp2_with fail
  go_loopg [5] xs.length (fun k i wr => ∃ (j : Nat), k + j = xs.length ∧ i = .int .i64 j ∧ Below w.heap.size w wr)
  case atStart => exact ⟨0, by omega, rfl, Below.refl _ _⟩
  case round =>
    obtain ⟨j, hk, rfl, hb⟩ := hrel
    by_cases hlt : j < xs.length
    · obtain ⟨b, o, A1, p1, rfl, c0, c1, c2, R1⟩ := HE.out j hlt
      obtain ⟨b', o', B1, q1, rfl, d0, d1, d2, Q1⟩ := HE'.out j hlt
      replace c0 := Below.cell' hb c0
      replace d0 := Below.cell' hb d0
      replace c1 := Below.cell' hb c1
      replace d1 := Below.cell' hb d1
      replace c2 := Below.cell' hb c2
      replace d2 := Below.cell' hb d2
      go_wp2_with fail
      go_still_tail 8, (by kernel_rfl)
      change wpList _ _ _ _ _ wr.drew
      have hd : Below w.heap.size w wr.drew := below_drew hb
      go_wp2_with fail
      refine (eqBlock xs[j] _ _ _ _ _ (R1.below hd) (Q1.below hd)).mono ?_
      rintro e w1 ⟨rfl, hb1⟩
      have hb2 := below_all hd hb1
      go_wp2_with fail
      go_roundg (gk - 1)
      case measure => omega
      case rel => exact ⟨j + 1, by omega, by go_num, hb2⟩
    · go_wp2_with fail
      go_ret
      exact ⟨rfl, hb⟩
theorem nextOf_len (nb : Nat) (at_ : List Int) (b : Nat) (x : GInstr) : (nextOf nb at_ b x).length ≤ 2 := by
  have h : ∀ (y : List Int) (c : Prop) [Decidable c] (n : Int), y.length ≤ 1 → (if c then y ++ [n] else y).length ≤ 2 := by
    intro y c _ n hy
    split
    · simp; omega
    · omega
  unfold nextOf
  exact h _ _ _ (by split <;> simp)
theorem finL_cnt (code : List GInstr) (nb : Nat) (at_ : List Int) : ∀ (l : List GBlock) (i : Nat), D.cnts ((finL code nb at_ l i).map GBlock.d) ≤ 2 * l.length
  | [], _ => by simp [finL, D.cnts]
  | b :: r, i => by
    have h1 := finL_cnt code nb at_ r (i + 1)
    have h2 := nextOf_len nb at_ i (code.getD b.last.toNat zI)
    rw [finL, List.map_cons, D.cnts, GBlock.cnt, cnt_sl, cnts_flat _ (fun _ _ => rfl), List.length_cons]
    simp only
    omega
theorem blocksOf_cnt (code : List GInstr) : (blocksOf code).length + D.cnts ((blocksOf code).map GBlock.d) ≤ 4096 := by
  unfold blocksOf
  split
  · rename_i h
    unfold codeGood at h
    simp only [Bool.and_eq_true, decide_eq_true_eq] at h
    obtain ⟨⟨h1, h2⟩, _⟩ := h
    have h3 := (blocks0_inv code h1).le
    have h4 := finL_cnt code (blocks0 code).1.length (blocks0 code).2 (blocks0 code).1 0
    rw [finL_len]
    omega
  · simp [D.cnts]
set_option maxRecDepth 100000 in
set_option maxHeartbeats 2000000 in
theorem blocksOf_law (xs : List GInstr) (v : Value) (w : World) {e0 : Nat} (hv : Rd w (D.slice e0 4 (xs.map GInstr.d)) [v]) :
    Calls Try.prog 4 #[v] w fun e w' => e = .returned (.bool true) ∧ Below w.heap.size w w' := by
  have HV := Lib.hid hv
  have HC := Lib.hid (blocksOf_cnt xs)
  clear hv
  go_enter Try.func4, Try.ntmps4
  go_wp2_with fail
  refine (szInstrS xs v 1048576 w HV.out (by omega) (by omega)).mono ?_
  rintro e1 w1 ⟨l, rfl, hl, hb1⟩
  rcases hl with rfl | ⟨h0, h1⟩
  · go_wp2_with fail
    go_ret
    exact ⟨rfl, hb1⟩
  · have hcn : D.cnt (D.slice 90 4 (xs.map GInstr.d)) ≤ 1048576 := by omega
    have hcm : xs.length + D.cnts (xs.map GInstr.d) ≤ 1048576 := by rw [cnt_sl] at hcn; exact hcn
    have HM := Lib.hid hcm
    have HN := Lib.hid hcn
    have B1 := Lib.hid hb1
    clear hcn hcm h1 hb1
    go_wp2_with fail
    refine (toInstrS xs v _ (HV.out.below B1.out) HN.out).mono ?_
    rintro e1 w2 ⟨A2, n2, c2, g2, rfl, ho2, hb2⟩
    have R2 := Lib.hid ho2.rd
    have B2 := Lib.hid (below_all B1.out hb2)
    clear ho2 hb2
    go_wp2_with fail
    refine (blocksOf_spec xs _ _ R2.out).mono ?_
    rintro e1 w3 ⟨vw, gw, rfl, ow, hb3⟩
    have B3 := Lib.hid (below_all B2.out hb3)
    have OW := Lib.hid (ow.lower B2.out.size)
    clear ow hb3 R2
    go_wp2_with fail
    refine (toInstrS xs v _ (HV.out.below B3.out) HN.out).mono ?_
    rintro e1 w4 ⟨Ax, nx, cx, gx, rfl, ox, hb4⟩
    have DWX := Lib.hid (show ∀ b ∈ gw.bs, b ∉ gx.bs from fun b hb hb' => by have := OW.out.lt b hb; have := ox.lo b hb'; omega)
    have B4 := Lib.hid (below_all B3.out hb4)
    have OW4 := Lib.hid (OW.out.below hb4)
    have OX := Lib.hid (ox.lower B3.out.size)
    clear ox hb4 OW
    go_wp2_with fail
    refine (blocksOf_impl xs _ _ OX.out.rd).mono ?_
    rintro e1 w5 ⟨vg, gg, rfl, og, hb5⟩
    have DWG := Lib.hid (show ∀ b ∈ gw.bs, b ∉ gg.bs from fun b hb hb' => by have := OW4.out.lt b hb; have := og.lo b hb'; omega)
    have DXG := Lib.hid (show ∀ b ∈ gg.bs, b ∉ gx.bs from fun b hb hb' => by have := OX.out.lt b hb'; have := og.lo b hb; omega)
    have B5 := Lib.hid (below_all B4.out hb5)
    have OW5 := Lib.hid (OW4.out.below hb5)
    have OX5 := Lib.hid (OX.out.below hb5)
    have OG := Lib.hid (og.lower B4.out.size)
    clear og hb5 OW4 OX
    go_wp2_with fail
    refine (eqBlockS (blocksOf xs) _ _ _ OG.out.rd OW5.out.rd).mono ?_
    rintro e1 w6 ⟨rfl, hb6⟩
    have B6 := Lib.hid (below_all B5.out hb6)
    have OW6 := Lib.hid (OW5.out.below hb6)
    have OX6 := Lib.hid (OX5.out.below hb6)
    have OG6 := Lib.hid (OG.out.below hb6)
    clear hb6 OW5 OX5 OG
    go_wp2_with fail
    refine (toInstrS xs v _ (HV.out.below B6.out) HN.out).mono ?_
    rintro e1 w7 ⟨A7, n7, c7, g7, rfl, o7, hb7⟩
    have R7 := Lib.hid o7.rd
    have B7 := Lib.hid (below_all B6.out hb7)
    have OW7 := Lib.hid (OW6.out.below hb7)
    have OX7 := Lib.hid (OX6.out.below hb7)
    have OG7 := Lib.hid (OG6.out.below hb7)
    clear hb7 OW6 OX6 OG6 o7
    go_wp2_with fail
    refine (eqInstrS xs _ _ _ OX7.out.rd R7.out).mono ?_
    rintro e1 w8 ⟨rfl, hb8⟩
    have B8 := Lib.hid (below_all B7.out hb8)
    have OW8 := Lib.hid (OW7.out.below hb8)
    have OX8 := Lib.hid (OX7.out.below hb8)
    have OG8 := Lib.hid (OG7.out.below hb8)
    clear hb8 OW7 OX7 OG7 R7
    go_wp2_with fail
    refine (markInstrS xs _ gx 1 _ OX8.out.lay OX8.out.in_ OX8.out.nd (by omega) (by have := HM.out; omega)).mono ?_
    rintro e1 w9 ⟨y9, k9, h9, rfl, hd9, _, _, _, _, hu9⟩
    have q9 := HdL.mono GInstr.Hd_mono _ _ _ hd9
    have B9 := Lib.hid (B8.out.trans (hu9.below B8.out.size OX8.out.lo))
    have OW9 := Lib.hid (OW8.out.upd hu9 DWX.out)
    have OG9 := Lib.hid (OG8.out.upd hu9 DXG.out)
    clear hu9 hd9 OW8 OX8 OG8
    go_wp2_with fail
    refine (eqBlockS (blocksOf xs) _ _ _ OG9.out.rd OW9.out.rd).mono ?_
    rintro e1 w10 ⟨rfl, hb10⟩
    have B10 := Lib.hid (below_all B9.out hb10)
    have OW10 := Lib.hid (OW9.out.below hb10)
    have OG10 := Lib.hid (OG9.out.below hb10)
    clear hb10 OW9 OG9
    go_wp2_with fail
    refine (markBlockS (blocksOf xs) _ gg 1 _ OG10.out.lay OG10.out.in_ OG10.out.nd (by omega) (by have := HC.out; omega)).mono ?_
    rintro e1 w11 ⟨y11, k11, h11, rfl, hd11, hk11, hl11, hbs11, hin11, hu11⟩
    have q11 := HdL.mono GBlock.Hd_mono _ _ _ hd11
    have c11 := HC.out
    have r11 : k11 ≤ 1125899906842624 := by omega
    have B11 := Lib.hid (B10.out.trans (hu11.below B10.out.size OG10.out.lo))
    have OW11 := Lib.hid (OW10.out.upd hu11 DWG.out)
    have HD := Lib.hid hd11
    have OY := Lib.hid (show Own w11 w.heap.size _ _ h11 from ⟨hl11, hin11, by rw [hbs11]; exact OG10.out.nd, by rw [hbs11]; exact OG10.out.lo⟩)
    clear hu11 hd11 hl11 hbs11 hin11 hk11 c11 OW10 OG10
    go_wp2_with fail
    refine (heldBlockS y11 _ 1 k11 _ OY.out.rd HD.out (by omega) r11).mono ?_
    rintro e1 w12 ⟨rfl, hb12⟩
    have B12 := Lib.hid (below_all B11.out hb12)
    have OW12 := Lib.hid (OW11.out.below hb12)
    have OY12 := Lib.hid (OY.out.below hb12)
    clear hb12 OW11 OY
    go_wp2_with fail
    refine (toInstrS xs v _ (HV.out.below B12.out) HN.out).mono ?_
    rintro e1 w13 ⟨A13, n13, c13, g13, rfl, o13, hb13⟩
    have R13 := Lib.hid o13.rd
    have B13 := Lib.hid (below_all B12.out hb13)
    have OW13 := Lib.hid (OW12.out.below hb13)
    have OY13 := Lib.hid (OY12.out.below hb13)
    clear hb13 OW12 OY12 o13
    go_wp2_with fail
    refine (blocksOf_impl xs _ _ R13.out).mono ?_
    rintro e1 w14 ⟨vh, gh, rfl, oh, hb14⟩
    have RH := Lib.hid oh.rd
    have B14 := Lib.hid (below_all B13.out hb14)
    have OW14 := Lib.hid (OW13.out.below hb14)
    have OY14 := Lib.hid (OY13.out.below hb14)
    clear hb14 OW13 OY13 oh R13
    go_wp2_with fail
    refine (eqBlockS (blocksOf xs) _ _ _ RH.out OW14.out.rd).mono ?_
    rintro e1 w15 ⟨rfl, hb15⟩
    have B15 := Lib.hid (below_all B14.out hb15)
    have OY15 := Lib.hid (OY14.out.below hb15)
    clear hb15 OW14 OY14 RH
    go_wp2_with fail
    refine (heldBlockS y11 _ 1 k11 _ OY15.out.rd HD.out (by omega) r11).mono ?_
    rintro e1 w16 ⟨rfl, hb16⟩
    have B16 := Lib.hid (below_all B15.out hb16)
    clear hb16 OY15
    go_wp2_with fail
    go_ret
    exact ⟨rfl, B16.out⟩
end Go.Proofs.Ytedlhhhfifdnfaa
