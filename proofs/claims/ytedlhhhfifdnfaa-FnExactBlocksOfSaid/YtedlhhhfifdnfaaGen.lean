/- Words of this session's own for the printed helper contracts. No program in sight. -/
import Derived.Test.YtedlhhhfifdnfaaFill
import Derived.Lib.Hide
import Derived.Deep.Draws
set_option linter.unusedVariables false
set_option linter.unusedSimpArgs false
namespace Go.Proofs.Ytedlhhhfifdnfaa
open Go.RowKit

theorem sl_any {w : World} {e sz : Nat} {xs : List D} {v : Value} (h : Rd w (.slice e sz xs) [v]) : ∃ A p, v = .slice A xs.length p := by
  simp only [Rd] at h
  obtain ⟨A, p, hv, _⟩ := h
  exact ⟨A, p, List.singleton_inj.1 hv⟩
theorem lay_sl_any {e sz : Nat} {xs : List D} {v : Value} {h : Hp} (l : Lay (.slice e sz xs) [v] h) : ∃ A p, v = .slice A xs.length p := by
  rw [Lay] at l
  obtain ⟨u, cells, h0, h1, hv, _, ⟨_, hr⟩, _⟩ := l
  obtain rfl := List.singleton_inj.1 hv
  rcases hr with ⟨rfl, hn, _⟩ | ⟨g, cap, cur, rfl, _⟩
  · exact ⟨none, 0, by rw [hn]⟩
  · exact ⟨_, _, rfl⟩
theorem rows_open {α : Type} {en : α → D} {w : World} {e sz : Nat} {xs : List α} {v : Value} (h : Rd w (.slice e sz (xs.map en)) [v]) :
    ∃ A cap, v = .slice A xs.length cap ∧ xs.length ≤ maxLen ∧ ∀ i (hi : i < xs.length), ∃ b o c, A = some ⟨b, o, none⟩ ∧ Rd w (en xs[i]) c ∧ ∀ j v, c[j]? = some v → w.cell? ⟨b, o + i * sz + j, none⟩ = some v := by
  simp only [Rd, List.length_map] at h
  obtain ⟨A, cap, hv, hl, hm, hr⟩ := h
  refine ⟨A, cap, List.singleton_inj.1 hv, by omega, fun i hi => ?_⟩
  rcases hr with h0 | ⟨b, o, hA, hr⟩
  · omega
  · obtain ⟨c, _, hd, hcell⟩ := RdRow.get hr i (by rw [List.length_map]; exact hi)
    rw [List.getElem_map] at hd
    exact ⟨b, o, c, hA, hd, hcell⟩
theorem ints_open {k : IntKind} {w : World} {e : Nat} {xs : List Int} {v : Value} (h : Rd w (.slice e 1 (xs.map (D.int k))) [v]) :
    ∃ A cap, v = .slice A xs.length cap ∧ xs.length ≤ maxLen ∧ ∀ i (hi : i < xs.length), ∃ b o, A = some ⟨b, o, none⟩ ∧ w.cell? ⟨b, o + i, none⟩ = some (.int k xs[i]) := by
  obtain ⟨A, cap, hv, hl, hel⟩ := rows_open h
  refine ⟨A, cap, hv, hl, fun i hi => ?_⟩
  obtain ⟨b, o, c, hA, hd, hcell⟩ := hel i hi
  simp only [Rd] at hd
  subst hd
  have := hcell 0 _ rfl
  rw [Nat.mul_one, Nat.add_zero] at this
  exact ⟨b, o, hA, this⟩
theorem lists_open {α : Type} {en : α → D} {w : World} {e e1 sz : Nat} {xs : List (List α)} {v : Value} (h : Rd w (.slice e 1 (xs.map (fun y => D.slice e1 sz (y.map en)))) [v]) :
    ∃ A cap, v = .slice A xs.length cap ∧ xs.length ≤ maxLen ∧ ∀ i (hi : i < xs.length), ∃ b o A1 p1, A = some ⟨b, o, none⟩ ∧ w.cell? ⟨b, o + i, none⟩ = some (.slice A1 xs[i].length p1) ∧ Rd w (.slice e1 sz (xs[i].map en)) [.slice A1 xs[i].length p1] := by
  obtain ⟨A, cap, hv, hl, hel⟩ := rows_open h
  refine ⟨A, cap, hv, hl, fun i hi => ?_⟩
  obtain ⟨b, o, c, hA, hd, hcell⟩ := hel i hi
  have hd' := hd
  simp only [Rd, List.length_map] at hd'
  obtain ⟨A1, p1, rfl, _⟩ := hd'
  have := hcell 0 _ rfl
  rw [Nat.mul_one, Nat.add_zero] at this
  exact ⟨b, o, A1, p1, hA, this, hd⟩
theorem cnt_sl {α : Type} {en : α → D} {e sz : Nat} (xs : List α) : D.cnt (.slice e sz (xs.map en)) = xs.length + D.cnts (xs.map en) := by
  rw [D.cnt, List.length_map]
theorem cnts_flat {α : Type} {en : α → D} : ∀ (xs : List α), (∀ x ∈ xs, D.cnt (en x) = 0) → D.cnts (xs.map en) = 0
  | [], _ => rfl
  | x :: xs, h => by rw [List.map_cons, D.cnts, h x List.mem_cons_self, cnts_flat xs fun y hy => h y (List.mem_cons_of_mem _ hy)]
theorem cnts_map_drop {α : Type} (en : α → D) (xs : List α) (j : Nat) (h : j < xs.length) : D.cnts ((xs.map en).drop j) = D.cnt (en xs[j]) + D.cnts ((xs.map en).drop (j + 1)) := by
  rw [List.drop_eq_getElem_cons (by rw [List.length_map]; exact h), D.cnts, List.getElem_map]
theorem cnts_mem {α : Type} (en : α → D) : ∀ (xs : List α) (j : Nat) (h : j < xs.length), D.cnt (en xs[j]) ≤ D.cnts (xs.map en)
  | x :: xs, 0, _ => by simp only [List.getElem_cons_zero, List.map_cons, D.cnts]; omega
  | x :: xs, j + 1, h => by
    have := cnts_mem en xs j (by simpa using h)
    simp only [List.getElem_cons_succ, List.map_cons, D.cnts]
    omega
theorem map_snoc {α : Type} (en : α → D) (xs : List α) (j : Nat) (h : j < xs.length) : (xs.take j).map en ++ [en xs[j]] = (xs.take (j + 1)).map en := by
  rw [List.take_succ_eq_append_getElem h, List.map_append]; rfl
theorem below_drewN {B : Nat} {w W : World} (h : Below B w W) (n : Nat) : Below B w (W.drewN n) := ⟨h.os, h.tape, h.output, h.size, h.block⟩
/-- Three blocks of a call's own (its argument's box, the result, the variable 'out'), and what its callees have made. -/
structure Tri (w W : World) (cx c2 c3 : Array Value) (ex e : Nat) (h : Hp) : Prop where
  hx : W.heap[w.heap.size]? = some (.cells cx ex (0, 0))
  h2 : W.heap[w.heap.size + 1]? = some (.cells c2 e (0, 0))
  h3 : W.heap[w.heap.size + 1 + 1]? = some (.cells c3 e (0, 0))
  below : Below w.heap.size w W
  in_ : In W h
  nd : h.bs.Nodup
  lo : ∀ b ∈ h.bs, w.heap.size + 2 < b
section
variable {w W W1 : World} {cx c2 c3 : Array Value} {ex e : Nat} {h g : Hp} {d : D} {cs : List Value}
theorem Tri.start (w : World) (cx c2 c3 : Array Value) (ex e : Nat) : Tri w (((w.alloc (.cells cx ex)).alloc (.cells c2 e)).alloc (.cells c3 e)) cx c2 c3 ex e [] := by
  refine ⟨?_, ?_, ?_, below_new (below_new (below_box _) _) _, In.nil _, List.nodup_nil, (fun _ h => nomatch h)⟩
  · rw [Below.heap_alloc _ _ _ (by simp; omega), Below.heap_alloc _ _ _ (by simp)]
    exact heap_alloc_new _ _
  · rw [Below.heap_alloc _ _ _ (by simp)]
    have := heap_alloc_new (w.alloc (.cells cx ex)) (.cells c2 e)
    simpa using this
  · have := heap_alloc_new ((w.alloc (.cells cx ex)).alloc (.cells c2 e)) (.cells c3 e)
    simpa using this
theorem Tri.lt (t : Tri w W cx c2 c3 ex e h) : w.heap.size + 1 + 1 < W.heap.size := (Array.getElem?_eq_some_iff.1 t.h3).1
theorem Tri.set3 (t : Tri w W cx c2 c3 ex e h) (i : Nat) (v : Value) : Tri w (W.setCell ⟨w.heap.size + 1 + 1, i, none⟩ v) cx c2 (c3.setIfInBounds i v) ex e h := by
  refine ⟨?_, ?_, blk_setCell t.h3 i v, below_set t.below (by show w.heap.size ≤ w.heap.size + 1 + 1; omega) _, ?_, t.nd, t.lo⟩
  · rw [Below.heap_setCell _ _ _ _ (by show w.heap.size ≠ w.heap.size + 1 + 1; omega)]; exact t.hx
  · rw [Below.heap_setCell _ _ _ _ (by show w.heap.size + 1 ≠ w.heap.size + 1 + 1; omega)]; exact t.h2
  · intro p hp
    rw [Below.heap_setCell _ _ _ _ (by have := t.lo p.1 (List.mem_map.2 ⟨p, hp, rfl⟩); show p.1 ≠ w.heap.size + 1 + 1; omega)]
    exact t.in_ p hp
theorem Tri.set2 (t : Tri w W cx c2 c3 ex e h) (i : Nat) (v : Value) : Tri w (W.setCell ⟨w.heap.size + 1, i, none⟩ v) cx (c2.setIfInBounds i v) c3 ex e h := by
  refine ⟨?_, blk_setCell t.h2 i v, ?_, below_set t.below (by show w.heap.size ≤ w.heap.size + 1; omega) _, ?_, t.nd, t.lo⟩
  · rw [Below.heap_setCell _ _ _ _ (by show w.heap.size ≠ w.heap.size + 1; omega)]; exact t.hx
  · rw [Below.heap_setCell _ _ _ _ (by show w.heap.size + 1 + 1 ≠ w.heap.size + 1; omega)]; exact t.h3
  · intro p hp
    rw [Below.heap_setCell _ _ _ _ (by have := t.lo p.1 (List.mem_map.2 ⟨p, hp, rfl⟩); show p.1 ≠ w.heap.size + 1; omega)]
    exact t.in_ p hp
theorem Tri.call (t : Tri w W cx c2 c3 ex e h) (o : Own W1 W.heap.size d cs g) (hb : Below W.heap.size W W1) : Tri w W1 cx c2 c3 ex e (h ++ g) := by
  have hl := t.lt
  refine ⟨(hb.block _ (by omega)).trans t.hx, (hb.block _ (by omega)).trans t.h2, (hb.block _ hl).trans t.h3, below_all t.below hb, In.append.2 ⟨t.in_.below hb, o.in_⟩, ?_, ?_⟩
  · rw [bs_append]
    exact List.nodup_append.2 ⟨t.nd, o.nd, fun x hx y hy e => by have := t.in_.lt x hx; have := o.lo y hy; omega⟩
  · intro b hb'
    rw [bs_append] at hb'
    rcases List.mem_append.1 hb' with h | h
    · exact t.lo b h
    · have := o.lo b h; omega
theorem Tri.cellx (t : Tri w W cx c2 c3 ex e h) {i : Nat} {v : Value} (hi : cx[i]? = some v) : W.cell? ⟨w.heap.size, i, none⟩ = some v := by rw [cell_of_blk t.hx]; exact hi
theorem Tri.cell2 (t : Tri w W cx c2 c3 ex e h) {i : Nat} {v : Value} (hi : c2[i]? = some v) : W.cell? ⟨w.heap.size + 1, i, none⟩ = some v := by rw [cell_of_blk t.h2]; exact hi
theorem Tri.cell3 (t : Tri w W cx c2 c3 ex e h) {i : Nat} {v : Value} (hi : c3[i]? = some v) : W.cell? ⟨w.heap.size + 1 + 1, i, none⟩ = some v := by rw [cell_of_blk t.h3]; exact hi
theorem Tri.free2 (t : Tri w W cx c2 c3 ex e h) (i : Nat) : W.frozen? ⟨w.heap.size + 1, i, none⟩ = false := free_of_blk t.h2 i
theorem Tri.free3 (t : Tri w W cx c2 c3 ex e h) (i : Nat) : W.frozen? ⟨w.heap.size + 1 + 1, i, none⟩ = false := free_of_blk t.h3 i
end
/-- Two boxes of a call's own. -/
structure Duo (w W : World) (c1 c2 : Array Value) (e : Nat) : Prop where
  h1 : W.heap[w.heap.size]? = some (.cells c1 e (0, 0))
  h2 : W.heap[w.heap.size + 1]? = some (.cells c2 e (0, 0))
  below : Below w.heap.size w W
section
variable {w W W1 : World} {c1 c2 : Array Value} {e : Nat}
theorem Duo.start (w : World) (c1 c2 : Array Value) (e : Nat) : Duo w ((w.alloc (.cells c1 e)).alloc (.cells c2 e)) c1 c2 e := by
  refine ⟨?_, ?_, below_new (below_box _) _⟩
  · rw [Below.heap_alloc _ _ _ (by simp)]
    exact heap_alloc_new _ _
  · have := heap_alloc_new (w.alloc (.cells c1 e)) (.cells c2 e)
    simpa using this
theorem Duo.call (t : Duo w W c1 c2 e) (hb : Below W.heap.size W W1) : Duo w W1 c1 c2 e := by
  have hl : w.heap.size + 1 < W.heap.size := (Array.getElem?_eq_some_iff.1 t.h2).1
  exact ⟨(hb.block _ (by omega)).trans t.h1, (hb.block _ hl).trans t.h2, below_all t.below hb⟩
theorem Duo.cell1 (t : Duo w W c1 c2 e) {i : Nat} {v : Value} (hi : c1[i]? = some v) : W.cell? ⟨w.heap.size, i, none⟩ = some v := by rw [cell_of_blk t.h1]; exact hi
theorem Duo.cell2 (t : Duo w W c1 c2 e) {i : Nat} {v : Value} (hi : c2[i]? = some v) : W.cell? ⟨w.heap.size + 1, i, none⟩ = some v := by rw [cell_of_blk t.h2]; exact hi
end
end Go.Proofs.Ytedlhhhfifdnfaa
