/- Words of this session's own: a row made by make and filled element by element; a row appended to. No program in sight. -/
import Derived.Test.YtedlhhhfifdnfaaBase
import Derived.Deep.OwnRows
set_option linter.unusedVariables false
set_option linter.unusedSimpArgs false
namespace Go.Proofs.Ytedlhhhfifdnfaa
open Go.RowKit

theorem run_make_any {P : Program} (t e : TypeId) (z : Value) (sz bytes : Nat) (ht : P.underlying t = some (.slice e)) (hinfo : (P.info? e).map (fun i => (i.zero, i.size, i.bytes)) = some (some z, sz, bytes))
    (n : Nat) (hbytes : bytes * n ≤ 281474976710656) (h63 : n ≤ 9223372036854775807) :
    ∃ Z : Array Value, Z.size = n * sz ∧ Z = madeCells z.cells (n * sz) ∧ ∀ w : World, (Instr.makeSlice t (.int .i64 (n : Int)) (.int .i64 (n : Int))).run P w = .ok (.slice (some ⟨w.heap.size, 0, none⟩) n n) (w.alloc (.cells Z e)) := by
  refine ⟨madeCells z.cells (n * sz), size_madeCells _ _, rfl, fun w => ?_⟩
  obtain ⟨i, hi, hzz⟩ := Option.map_eq_some_iff.1 hinfo
  simp only [Prod.mk.injEq] at hzz
  obtain ⟨hz, hs, hb⟩ := hzz
  have hb' : (i.bytes : Int) * (n : Int) ≤ 281474976710656 := by
    have h : ((i.bytes * n : Nat) : Int) ≤ 281474976710656 := by rw [hb]; omega
    rwa [Int.natCast_mul] at h
  have hr := run_make (P := P) w t e i z ht hi hz .i64 .i64 n n (by omega) (Int.le_refl _) hb' (by omega)
  simp only [Int.toNat_natCast, hs] at hr
  exact hr

theorem run_make_of {P : Program} (t e : TypeId) (z : Value) (sz bytes : Nat) (ht : P.underlying t = some (.slice e)) (hinfo : (P.info? e).map (fun i => (i.zero, i.size, i.bytes)) = some (some z, sz, bytes))
    (n : Nat) (hbytes : bytes * n ≤ 281474976710656) (h63 : n ≤ 9223372036854775807) :
    ∃ Z : Array Value, Z.size = n * sz ∧ ∀ w : World, (Instr.makeSlice t (.int .i64 (n : Int)) (.int .i64 (n : Int))).run P w = .ok (.slice (some ⟨w.heap.size, 0, none⟩) n n) (w.alloc (.cells Z e)) := by
  obtain ⟨Z, h, _, k⟩ := run_make_any t e z sz bytes ht hinfo n hbytes h63
  exact ⟨Z, h, k⟩

/-- A run of cells stored one behind the other. -/
def sets (w : World) (b : Nat) : Nat → List Value → World
  | _, [] => w
  | o, v :: vs => sets (w.setCell ⟨b, o, none⟩ v) b (o + 1) vs
def setRun (cur : Array Value) : Nat → List Value → Array Value
  | _, [] => cur
  | o, v :: vs => setRun (cur.setIfInBounds o v) (o + 1) vs
theorem size_setRun : ∀ (vs : List Value) (cur : Array Value) (o : Nat), (setRun cur o vs).size = cur.size
  | [], _, _ => rfl
  | v :: vs, cur, o => by rw [setRun, size_setRun vs]; simp
theorem take_setRun : ∀ (vs : List Value) (cur : Array Value) (o : Nat), o + vs.length ≤ cur.size → (setRun cur o vs).toList.take (o + vs.length) = cur.toList.take o ++ vs
  | [], cur, o, _ => by simp [setRun]
  | v :: vs, cur, o, h => by
    simp only [List.length_cons] at h
    have ih := take_setRun vs (cur.setIfInBounds o v) (o + 1) (by simp; omega)
    rw [setRun, List.length_cons, show o + (vs.length + 1) = o + 1 + vs.length by omega, ih, Array.toList_setIfInBounds]
    rw [List.take_add_one, List.take_set_of_le (Nat.le_refl o)]
    have hlt : o < cur.toList.length := by rw [Array.length_toList]; omega
    rw [List.getElem?_set_self hlt]
    simp
theorem blk_setCell {w : World} {b e : Nat} {cur : Array Value} {f : Nat × Nat} (h : w.heap[b]? = some (.cells cur e f)) (o : Nat) (v : Value) : (w.setCell ⟨b, o, none⟩ v).heap[b]? = some (.cells (cur.setIfInBounds o v) e f) := by
  simp [World.setCell, Array.getElem?_modify, h]
theorem blk_sets : ∀ (vs : List Value) {w : World} {b e : Nat} {cur : Array Value} {f : Nat × Nat} (o : Nat), w.heap[b]? = some (.cells cur e f) → (sets w b o vs).heap[b]? = some (.cells (setRun cur o vs) e f)
  | [], _, _, _, _, _, _, h => h
  | v :: vs, _, _, _, _, _, o, h => blk_sets vs (o + 1) (blk_setCell h o v)
theorem upd_sets {S : Nat → Prop} : ∀ (vs : List Value) {a w : World} {b : Nat} (o : Nat), Upd S a w → (S b ∨ a.heap.size ≤ b) → Upd S a (sets w b o vs)
  | [], _, _, _, _, h, _ => h
  | v :: vs, _, _, _, o, h, hb => upd_sets vs (o + 1) (h.setCell hb v) hb
theorem below_sets : ∀ (vs : List Value) {a w : World} {b : Nat} (o : Nat), Below a.heap.size a w → a.heap.size ≤ b → Below a.heap.size a (sets w b o vs)
  | [], _, _, _, _, h, _ => h
  | v :: vs, _, _, _, o, h, hb => below_sets vs (o + 1) (below_set h hb v) hb

theorem LayRow.snoc {sz : Nat} {x : D} {c : List Value} {h' : Hp} (hc : c.length = sz) (hx : Lay x c h') : ∀ (xs : List D) (cells : List Value) (h : Hp), LayRow sz xs cells h → LayRow sz (xs ++ [x]) (cells ++ c) (h ++ h')
  | [], _, _, l => by
    simp only [LayRow] at l
    obtain ⟨rfl, rfl⟩ := l
    simp only [List.nil_append, LayRow]
    exact ⟨c, [], h', [], by simp, by simp, hc, hx, rfl, rfl⟩
  | y :: ys, cells, h, l => by
    simp only [LayRow] at l
    obtain ⟨c0, c1, h0, h1, rfl, rfl, hs, a, r⟩ := l
    have ih := LayRow.snoc hc hx ys c1 h1 r
    simp only [List.cons_append, LayRow]
    exact ⟨c0, c1 ++ c, h0, h1 ++ h', by simp, by simp, hs, a, ih⟩
theorem LayRow.len {sz : Nat} : ∀ (xs : List D) (cells : List Value) (h : Hp), LayRow sz xs cells h → cells.length = xs.length * sz
  | [], _, _, l => by
    simp only [LayRow] at l
    rw [l.1]
    simp
  | y :: ys, cells, h, l => by
    simp only [LayRow] at l
    obtain ⟨c0, c1, h0, h1, rfl, rfl, hs, a, r⟩ := l
    have ih := LayRow.len ys c1 h1 r
    rw [List.length_append, hs, ih, List.length_cons, Nat.succ_mul]
    omega
theorem Own.int_ (w : World) (B : Nat) (k : IntKind) (n : Int) : Own w B (.int k n) [.int k n] [] := ⟨by simp only [Lay]; exact ⟨trivial, trivial⟩, In.nil w, List.nodup_nil, fun _ h => nomatch h⟩
theorem Own.bool_ (w : World) (B : Nat) (b : Bool) : Own w B (.bool b) [.bool b] [] := ⟨by simp only [Lay]; exact ⟨trivial, trivial⟩, In.nil w, List.nodup_nil, fun _ h => nomatch h⟩

/-- A row of n places of sz cells, made at block B behind w0's, whose first places are filled with the data ds over the pieces h. -/
structure Fill (w0 wr : World) (E sz n : Nat) (ds : List D) (h : Hp) : Prop where
  blk : ∃ cur cells, wr.heap[w0.heap.size]? = some (.cells cur E (0, 0)) ∧ cur.size = n * sz ∧ cur.toList.take (ds.length * sz) = cells ∧ LayRow sz ds cells h
  in_ : In wr h
  nd : h.bs.Nodup
  lo : ∀ b ∈ h.bs, w0.heap.size < b
  below : Below w0.heap.size w0 wr
section
variable {w0 wr w1 : World} {E sz n : Nat} {ds : List D} {x : D} {vs : List Value} {h hx : Hp}
theorem Fill.start {Z : Array Value} (hZ : Z.size = n * sz) : Fill w0 (w0.alloc (.cells Z E)) E sz n [] [] :=
  ⟨⟨Z, [], heap_alloc_new w0 _, hZ, by simp, by simp only [LayRow]; exact ⟨trivial, trivial⟩⟩, In.nil _, List.nodup_nil, (fun _ h => nomatch h), below_box _⟩
theorem Fill.lt (f : Fill w0 wr E sz n ds h) : w0.heap.size < wr.heap.size := by
  obtain ⟨cur, cells, hb, _⟩ := f.blk
  exact (Array.getElem?_eq_some_iff.1 hb).1
/-- The cells that are there to be written. -/
theorem Fill.cell (f : Fill w0 wr E sz n ds h) (j i : Nat) (hj : j < n) (hi : i < sz) : ∃ v, wr.cell? ⟨w0.heap.size, j * sz + i, none⟩ = some v := by
  obtain ⟨cur, cells, hb, hs, _⟩ := f.blk
  have : j * sz + i < cur.size := by rw [hs]; have : (j + 1) * sz ≤ n * sz := Nat.mul_le_mul_right _ hj; rw [Nat.succ_mul] at this; omega
  exact ⟨cur[j * sz + i], by rw [cell_of_blk hb, Array.getElem?_eq_getElem this]⟩
theorem Fill.cell0 (f : Fill w0 wr E sz n ds h) (j : Nat) (hj : j < n) (hi : 0 < sz) : ∃ v, wr.cell? ⟨w0.heap.size, j * sz, none⟩ = some v := f.cell j 0 hj hi
theorem Fill.free (f : Fill w0 wr E sz n ds h) (o : Nat) : wr.frozen? ⟨w0.heap.size, o, none⟩ = false := by
  obtain ⟨cur, cells, hb, hs, _⟩ := f.blk
  exact free_of_blk hb o
/-- The next place is filled with what a call made. -/
theorem Fill.step (f : Fill w0 wr E sz n ds h) (o : Own w1 wr.heap.size x vs hx) (hb : Below wr.heap.size wr w1) (hlt : ds.length < n) (hvs : vs.length = sz) :
    Fill w0 (sets w1 w0.heap.size (ds.length * sz) vs) E sz n (ds ++ [x]) (h ++ hx) := by
  obtain ⟨cur, cells, hblk, hs, ht, hl⟩ := f.blk
  have hlt0 := f.lt
  have hb1 : w1.heap[w0.heap.size]? = some (.cells cur E (0, 0)) := (hb.block _ hlt0).trans hblk
  have hle : (ds.length + 1) * sz ≤ n * sz := Nat.mul_le_mul_right _ hlt
  rw [Nat.succ_mul] at hle
  have hu : Upd (fun k => k = w0.heap.size) w1 (sets w1 w0.heap.size (ds.length * sz) vs) := upd_sets vs _ (Upd.refl _ _) (.inl rfl)
  refine ⟨⟨setRun cur (ds.length * sz) vs, cells ++ vs, blk_sets vs _ hb1, by rw [size_setRun, hs], ?_, LayRow.snoc hvs o.lay ds cells h hl⟩, ?_, ?_, ?_, ?_⟩
  · rw [List.length_append, List.length_singleton, Nat.succ_mul]
    have := take_setRun vs cur (ds.length * sz) (by omega)
    rw [hvs, ht] at this
    exact this
  · refine In.append.2 ⟨(f.in_.below hb).upd hu fun b hb he => ?_, o.in_.upd hu fun b hb he => ?_⟩
    · have := f.lo b hb; omega
    · have := o.lo b hb; omega
  · rw [bs_append]
    exact List.nodup_append.2 ⟨f.nd, o.nd, fun a ha b hb e => by have := f.in_.lt a ha; have := o.lo b hb; omega⟩
  · intro b hb
    rw [bs_append] at hb
    rcases List.mem_append.1 hb with hb | hb
    · exact f.lo b hb
    · have := o.lo b hb; omega
  · exact below_sets vs _ (below_all f.below hb) (Nat.le_refl _)
/-- All places are filled. -/
theorem Fill.done (f : Fill w0 wr E sz n ds h) (hn : ds.length = n) (hm : n ≤ maxLen) : ∃ hp, Own wr w0.heap.size (.slice E sz ds) [.slice (some ⟨w0.heap.size, 0, none⟩) n n] hp := by
  obtain ⟨cur, cells, hb, hs, ht, hl⟩ := f.blk
  refine ⟨(w0.heap.size, E, cur) :: h, ?_, In.cons.2 ⟨hb, f.in_⟩, ?_, ?_⟩
  · rw [Lay]
    refine ⟨_, cells, [(w0.heap.size, E, cur)], h, rfl, rfl, ⟨LayRow.len ds cells h hl, .inr ⟨_, n, cur, by rw [hn], by omega, hm, hs, by rw [ht], rfl⟩⟩, hl⟩
  · show (w0.heap.size :: h.bs).Nodup
    exact List.nodup_cons.2 ⟨fun hm => by have := f.lo _ hm; omega, f.nd⟩
  · intro b hb
    rcases List.mem_cons.1 (show b ∈ w0.heap.size :: h.bs from hb) with rfl | hb
    · exact Nat.le_refl _
    · exact Nat.le_of_lt (f.lo b hb)
end
end Go.Proofs.Ytedlhhhfifdnfaa
