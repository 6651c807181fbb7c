/- StmtFault: both answers are one plain function's. -/
import Derived.Test.YtedlhhhfifdnfaaProg
import Derived.Test.YtedlhhhfifdnfaaSt4
import Derived.Test.YtedlhhhfifdnfaaSt5
import Derived.Test.YtedlhhhfifdnfaaSt7
set_option linter.unusedVariables false
set_option linter.unusedSimpArgs false
namespace Go.Proofs.Ytedlhhhfifdnfaa
open Go.RowKit

theorem fit_els (s : St) (h : St.fits s = true) (hk : s.kind = 3) : s.els = [] := by
  simp only [St.fits, hk] at h
  simp at h
  exact h.2
theorem max_if (a b : Nat) (l : Int) (hl : 0 ≤ l) : max (if a = 0 then (0 : Int) else l + a) (if b = 0 then (0 : Int) else l + b) = if max a b = 0 then (0 : Int) else l + (max a b : Nat) := by
  by_cases ha : a = 0
  · by_cases hb : b = 0
    · rw [if_pos ha, if_pos hb, if_pos (by omega)]; rfl
    · rw [if_pos ha, if_neg hb, if_neg (by omega)]; omega
  · by_cases hb : b = 0
    · rw [if_neg ha, if_pos hb, if_neg (by omega)]; omega
    · rw [if_neg ha, if_neg hb, if_neg (by omega)]; omega
mutual
theorem dlv_lev : ∀ (s : St) (l : Int), 0 ≤ l → St.ok s = true → St.dlv s l = if St.lev s = 0 then 0 else l + St.lev s
  | .mk k a b x y, l, hl, h => by
    simp only [St.ok, Bool.and_eq_true] at h
    obtain ⟨⟨h0, h1⟩, h2⟩ := h
    have i1 := dlvs_levs x (l + 1) (by omega) h1
    have i2 := dlvs_levs x l hl h1
    have i3 := dlvs_levs y l hl h2
    simp only [St.dlv, St.lev]
    by_cases hk : k = 3
    · have hy : y = [] := fit_els (.mk k a b x y) h0 hk
      subst hy
      simp only [hk, if_true, St.dlvs, St.levs]
      rw [i1]
      by_cases hx : St.levs x = 0
      · rw [if_pos hx, if_neg (by omega)]; omega
      · rw [if_neg hx, if_neg (by omega)]; omega
    · simp only [if_neg hk]
      rw [i2, i3]
      simpa using max_if (St.levs x) (St.levs y) l hl
theorem dlvs_levs : ∀ (xs : List St) (l : Int), 0 ≤ l → St.oks xs = true → St.dlvs xs l = if St.levs xs = 0 then 0 else l + St.levs xs
  | [], _, _, _ => by simp [St.dlvs, St.levs]
  | s :: r, l, hl, h => by
    simp only [St.oks, Bool.and_eq_true] at h
    have i1 := dlv_lev s l hl h.1
    have i2 := dlvs_levs r l hl h.2
    simp only [St.dlvs, St.levs]
    rw [i1, i2]
    exact max_if _ _ l hl
end

theorem specFault (xs : List St) (e : Nat) (v : Value) (w : World) (hv : Rd w (.slice e 5 (St.ds e xs)) [v]) (hcn : St.cnts xs ≤ 1048576) :
    Calls Try.prog 9 #[v] w fun e w' => e = .returned (.int .i64 (St.fault xs)) ∧ Below w.heap.size w w' := by
  have HC := Lib.hid hcn
  go_enter Try.func9, Try.ntmps9
  go_wp2_with fail
  refine (wkS_all (St.dps xs) xs (Nat.le_refl _) e v w _ w.heap.size 0 60 hv (below_box _) (Nat.le_refl _) (by simp [go_sem]) (by simp [go_sem]) (by omega) (by omega)).mono ?_
  rintro e1 w1 ⟨c', rfl, hu, hc, hf, hq⟩
  have hb := hu.below (B := w.heap.size) (by simp) (fun k e => Nat.le_of_eq e.symm)
  have hb1 := (below_box _).trans hb
  have HU := Lib.hid hb1
  have HQ := Lib.hid hq
  clear hq hu hb1 hb
  cases hok : St.oks xs with
  | false =>
    go_wp2_with fail
    go_ret
    exact ⟨by rw [St.fault, if_pos hok]; rfl, HU.out⟩
  | true =>
    have hc' := HQ.out hok
    have HC' := Lib.hid hc'
    by_cases h60 : 60 < St.cnts xs
    · have hlt : c' < 0 := by omega
      clear hc'
      go_wp2_with fail
      go_ret
      exact ⟨by rw [St.fault, if_neg (by rw [hok]; simp), if_pos h60]; rfl, HU.out⟩
    · have hlt : 0 ≤ c' := by omega
      clear hc'
      go_wp2_with fail
      refine (lvS_all (St.dps xs) xs (Nat.le_refl _) _ v _ (hv.below HU.out) hcn).mono ?_
      rintro e1 w2 ⟨rfl, rfl⟩
      by_cases h8 : 8 < St.levs xs
      · go_wp2_with fail
        go_ret
        exact ⟨by rw [St.fault, if_neg (by rw [hok]; simp), if_neg h60, if_pos h8]; rfl, HU.out⟩
      · go_wp2_with fail
        go_ret
        exact ⟨by rw [St.fault, if_neg (by rw [hok]; simp), if_neg h60, if_neg h8]; rfl, HU.out⟩

theorem implFault (xs : List St) (e : Nat) (v : Value) (w : World) (hv : Rd w (.slice e 5 (St.ds e xs)) [v]) (hcn : St.cnts xs ≤ 1048576) (hdp : St.dps xs ≤ 1048576) :
    Calls Try.prog 11 #[v] w fun e w' => e = .returned (.int .i64 (St.fault xs)) ∧ Below w.heap.size w w' := by
  go_enter Try.func11, Try.ntmps11
  go_wp2_with fail
  refine (meS_all (St.dps xs) xs (Nat.le_refl _) e v w _ w.heap.size 0 (w.heap.size + 1) 0 0 0 0 hv (below_new (below_box _) _) (Nat.le_refl _) (by omega) (by omega) ⟨by simp [go_sem], by simp [go_sem], by simp [go_sem], by simp [go_sem]⟩ (by omega) (by omega) (by omega) (by omega) (by omega)).mono ?_
  rintro e1 w1 ⟨c', d', rfl, hu, ht, hq⟩
  have hb1 := below2 (w0 := w) (below_new (below_box _) _) hu (Nat.le_refl _) (by omega)
  have HU := Lib.hid hb1
  have HQ := Lib.hid hq
  clear hq hu hb1
  obtain ⟨k1, k2, k3, k4⟩ := ht
  cases hok : St.oks xs with
  | false =>
    go_wp2_with fail
    go_ret
    exact ⟨by rw [St.fault, if_pos hok]; rfl, HU.out⟩
  | true =>
    have hc' := HQ.out hok
    rw [dlvs_levs xs 0 (Int.le_refl _) hok] at hc'
    obtain ⟨hc1, hd1⟩ := hc'
    have hd2 : d' = St.levs xs := by rw [hd1]; split <;> omega
    by_cases h60 : 60 < St.cnts xs
    · have hlt : 60 < c' := by omega
      clear hc1 hd1 hd2
      go_wp2_with fail
      go_ret
      exact ⟨by rw [St.fault, if_neg (by rw [hok]; simp), if_pos h60]; rfl, HU.out⟩
    · have hlt : c' ≤ 60 := by omega
      by_cases h8 : 8 < St.levs xs
      · have hlt2 : 8 < d' := by omega
        clear hc1 hd1 hd2
        go_wp2_with fail
        go_ret
        exact ⟨by rw [St.fault, if_neg (by rw [hok]; simp), if_neg h60, if_pos h8]; rfl, HU.out⟩
      · have hlt2 : d' ≤ 8 := by omega
        clear hc1 hd1 hd2
        go_wp2_with fail
        go_ret
        exact ⟨by rw [St.fault, if_neg (by rw [hok]; simp), if_neg h60, if_neg h8]; rfl, HU.out⟩
end Go.Proofs.Ytedlhhhfifdnfaa
