/- The plain side of StmtFault: statements as a tree, what both programs reckon over it. No program in sight. -/
import Derived.Test.YtedlhhhfifdnfaaBase
set_option linter.unusedVariables false
namespace Go.Proofs.Ytedlhhhfifdnfaa
open Go.RowKit

inductive St where
  | mk (kind a b : Int) (body els : List St)
def St.kind : St → Int | .mk k _ _ _ _ => k
def St.a : St → Int | .mk _ a _ _ _ => a
def St.b : St → Int | .mk _ _ b _ _ => b
def St.body : St → List St | .mk _ _ _ x _ => x
def St.els : St → List St | .mk _ _ _ _ y => y
/-- The fields' own fit. -/
def St.fits (s : St) : Bool :=
  bif s.kind == 1 then decide (0 ≤ s.a) && decide (s.a < 8) && decide (0 ≤ s.b) && decide (s.b < 8) && ((s.body.length : Int) == 0) && ((s.els.length : Int) == 0)
  else bif s.kind == 2 then decide (0 ≤ s.a) && decide (s.a < 8) && decide (0 ≤ s.b) && decide (s.b < 8)
  else bif s.kind == 3 then (s.a == 0) && decide (0 ≤ s.b) && decide (s.b < 256) && ((s.els.length : Int) == 0)
  else bif s.kind == 4 then decide (0 ≤ s.a) && decide (s.a < 8) && (s.b == 0) && ((s.body.length : Int) == 0) && ((s.els.length : Int) == 0)
  else false
mutual
def St.d (e : Nat) : St → D
  | .mk k a b x y => .agg [.int .i64 k, .int .i64 a, .int .i64 b, .slice e 5 (St.ds e x), .slice e 5 (St.ds e y)]
def St.ds (e : Nat) : List St → List D
  | [] => []
  | s :: r => St.d e s :: St.ds e r
end
theorem ds_eq (e : Nat) : ∀ xs, St.ds e xs = xs.map (St.d e)
  | [] => rfl
  | s :: r => by rw [St.ds, List.map_cons, ds_eq e r]
theorem ds_len (e : Nat) (xs : List St) : (St.ds e xs).length = xs.length := by rw [ds_eq, List.length_map]
mutual
/-- How deep. -/
def St.dp : St → Nat | .mk _ _ _ x y => 1 + max (St.dps x) (St.dps y)
def St.dps : List St → Nat
  | [] => 0
  | s :: r => max (St.dp s) (St.dps r)
end
theorem dp_mem : ∀ {xs : List St} {s : St}, s ∈ xs → St.dp s ≤ St.dps xs
  | x :: xs, s, h => by
    rw [St.dps]
    rcases List.mem_cons.1 h with rfl | h
    · omega
    · have := dp_mem h; omega
theorem dp_body (s : St) : St.dps s.body < St.dp s := by cases s; simp only [St.body, St.dp]; omega
theorem dp_els (s : St) : St.dps s.els < St.dp s := by cases s; simp only [St.els, St.dp]; omega
mutual
def St.cnt : St → Nat | .mk _ _ _ x y => 1 + St.cnts x + St.cnts y
def St.cnts : List St → Nat
  | [] => 0
  | s :: r => St.cnt s + St.cnts r
end
mutual
def St.ok : St → Bool | .mk k a b x y => St.fits (.mk k a b x y) && St.oks x && St.oks y
def St.oks : List St → Bool
  | [] => true
  | s :: r => St.ok s && St.oks r
end
mutual
def St.lev : St → Nat | .mk k _ _ x y => max (St.levs x + if k = 3 then 1 else 0) (St.levs y)
def St.levs : List St → Nat
  | [] => 0
  | s :: r => max (St.lev s) (St.levs r)
end
def St.fault (xs : List St) : Int := if St.oks xs = false then 1 else if 60 < St.cnts xs then 2 else if 8 < St.levs xs then 3 else 0
mutual
theorem cnt_d (e : Nat) : ∀ s : St, D.cnt (St.d e s) + 1 = St.cnt s
  | .mk k a b x y => by
    have h1 := cnts_d e x
    have h2 := cnts_d e y
    simp only [St.d, D.cnt, D.cnts, St.cnt, ds_len] at h1 h2 ⊢
    omega
theorem cnts_d (e : Nat) : ∀ xs : List St, xs.length + D.cnts (St.ds e xs) = St.cnts xs
  | [] => by simp [St.ds, D.cnts, St.cnts]
  | s :: r => by
    have h1 := cnt_d e s
    have h2 := cnts_d e r
    simp only [St.ds, D.cnts, St.cnts, List.length_cons]
    omega
end
theorem cnts_drop' (xs : List St) (j : Nat) (h : j < xs.length) : St.cnts (xs.drop j) = St.cnt xs[j] + St.cnts (xs.drop (j + 1)) := by
  rw [List.drop_eq_getElem_cons h, St.cnts]
theorem cnt_eq (s : St) : St.cnt s = 1 + St.cnts s.body + St.cnts s.els := by cases s; rfl
theorem St.open_ {w : World} {e : Nat} {s : St} {cs : List Value} (h : Rd w (St.d e s) cs) :
    ∃ v1 v2, cs = [.int .i64 s.kind, .int .i64 s.a, .int .i64 s.b, v1, v2] ∧ Rd w (.slice e 5 (St.ds e s.body)) [v1] ∧ Rd w (.slice e 5 (St.ds e s.els)) [v2] := by
  cases s with
  | mk k a b x y =>
    simp only [St.d, Rd, RdAll] at h
    obtain ⟨_, _, rfl, rfl, _, _, rfl, rfl, _, _, rfl, rfl, _, _, rfl, ⟨A1, p1, rfl, h1⟩, _, _, rfl, ⟨A2, p2, rfl, h2⟩, rfl⟩ := h
    exact ⟨_, _, rfl, by simp only [Rd]; exact ⟨A1, p1, rfl, h1⟩, by simp only [Rd]; exact ⟨A2, p2, rfl, h2⟩⟩
/-- A slice of statements that reads: its value, and element i's cells. -/
theorem Sts.open_ {w : World} {e : Nat} {xs : List St} {v : Value} (h : Rd w (.slice e 5 (St.ds e xs)) [v]) :
    ∃ A cap, v = .slice A xs.length cap ∧ xs.length ≤ maxLen ∧ ∀ i (hi : i < xs.length), ∃ b o v1 v2, A = some ⟨b, o, none⟩ ∧
      w.cell? ⟨b, o + i * 5, none⟩ = some (.int .i64 xs[i].kind) ∧ w.cell? ⟨b, o + i * 5 + 1, none⟩ = some (.int .i64 xs[i].a) ∧ w.cell? ⟨b, o + i * 5 + 2, none⟩ = some (.int .i64 xs[i].b) ∧
      w.cell? ⟨b, o + i * 5 + 3, none⟩ = some v1 ∧ w.cell? ⟨b, o + i * 5 + 4, none⟩ = some v2 ∧ Rd w (.slice e 5 (St.ds e xs[i].body)) [v1] ∧ Rd w (.slice e 5 (St.ds e xs[i].els)) [v2] := by
  simp only [Rd, ds_len] at h
  obtain ⟨A, cap, hv, hl, hm, hr⟩ := h
  obtain rfl := List.singleton_inj.1 hv
  refine ⟨A, cap, rfl, by omega, fun i hi => ?_⟩
  rcases hr with h0 | ⟨b, o, hA, hr⟩
  · omega
  · have hi' : i < (St.ds e xs).length := by rw [ds_len]; exact hi
    obtain ⟨c, hc, hd, hcell⟩ := RdRow.get hr i hi'
    have hx : (St.ds e xs)[i] = St.d e xs[i] := by simp [ds_eq]
    rw [hx] at hd
    obtain ⟨v1, v2, rfl, h1, h2⟩ := St.open_ hd
    exact ⟨b, o, v1, v2, hA, by simpa using hcell 0 _ rfl, hcell 1 _ rfl, hcell 2 _ rfl, hcell 3 _ rfl, hcell 4 _ rfl, h1, h2⟩
theorem sl_form {w : World} {e sz : Nat} {xs : List D} {v : Value} (h : Rd w (.slice e sz xs) [v]) : ∃ A p, v = .slice A xs.length p := by
  simp only [Rd] at h
  obtain ⟨A, p, hv, _⟩ := h
  exact ⟨A, p, List.singleton_inj.1 hv⟩
/-- The same, the inner slices laid open. -/
theorem Sts.open2 {w : World} {e : Nat} {xs : List St} {v : Value} (h : Rd w (.slice e 5 (St.ds e xs)) [v]) :
    ∃ A cap, v = .slice A xs.length cap ∧ xs.length ≤ maxLen ∧ ∀ i (hi : i < xs.length), ∃ b o A1 p1 A2 p2, A = some ⟨b, o, none⟩ ∧
      w.cell? ⟨b, o + i * 5, none⟩ = some (.int .i64 xs[i].kind) ∧ w.cell? ⟨b, o + i * 5 + 1, none⟩ = some (.int .i64 xs[i].a) ∧ w.cell? ⟨b, o + i * 5 + 2, none⟩ = some (.int .i64 xs[i].b) ∧
      w.cell? ⟨b, o + i * 5 + 3, none⟩ = some (.slice A1 xs[i].body.length p1) ∧ w.cell? ⟨b, o + i * 5 + 4, none⟩ = some (.slice A2 xs[i].els.length p2) ∧
      Rd w (.slice e 5 (St.ds e xs[i].body)) [.slice A1 xs[i].body.length p1] ∧ Rd w (.slice e 5 (St.ds e xs[i].els)) [.slice A2 xs[i].els.length p2] := by
  obtain ⟨A, cap, hv, hl, hel⟩ := Sts.open_ h
  refine ⟨A, cap, hv, hl, fun i hi => ?_⟩
  obtain ⟨b, o, v1, v2, hA, c0, c1, c2, c3, c4, H1, H2⟩ := hel i hi
  obtain ⟨A1, p1, rfl⟩ := sl_form H1
  obtain ⟨A2, p2, rfl⟩ := sl_form H2
  rw [ds_len] at c3 c4 H1 H2
  exact ⟨b, o, A1, p1, A2, p2, hA, c0, c1, c2, c3, c4, H1, H2⟩
theorem cnts_drop_le (xs : List St) : ∀ j, St.cnts (xs.drop j) ≤ St.cnts xs := by
  induction xs with
  | nil => intro j; simp [St.cnts]
  | cons x r ih =>
    intro j
    cases j with
    | zero => exact Nat.le_refl _
    | succ j => rw [List.drop_succ_cons, St.cnts]; have := ih j; omega
end Go.Proofs.Ytedlhhhfifdnfaa
