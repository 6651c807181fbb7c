/- Words of this session's own: data (D), what reads as a datum (Rd), what is laid out by heap pieces of one's own (Lay). No program in sight. -/
import Derived.Below
import Derived.WalkKit
import Derived.OwnWalk
import Derived.Laws.AppendOwn
import Derived.Laws.MakeOwn
import Derived.Laws.OwnMore
set_option linter.unusedVariables false
set_option linter.unusedSimpArgs false
namespace Go.Proofs.Ytedlhhhfifdnfaa
open Go.RowKit

/-- A datum: numbers, bools, strings, slices (their element type and its size in cells), structs. -/
inductive D where
  | int (k : IntKind) (n : Int)
  | bool (b : Bool)
  | str (s : ByteArray)
  | slice (e : Nat) (sz : Nat) (xs : List D)
  | agg (fs : List D)

mutual
/-- In the world w the cells cs read as the datum. -/
def Rd (w : World) : D → List Value → Prop
  | .int k n, cs => cs = [.int k n]
  | .bool b, cs => cs = [.bool b]
  | .str s, cs => cs = [.string s]
  | .slice _ sz xs, cs => ∃ A cap, cs = [.slice A xs.length cap] ∧ xs.length ≤ cap ∧ cap ≤ maxLen ∧ (xs.length = 0 ∨ ∃ b o, A = some ⟨b, o, none⟩ ∧ RdRow w sz b o xs)
  | .agg fs, cs => RdAll w fs cs
def RdAll (w : World) : List D → List Value → Prop
  | [], cs => cs = []
  | x :: xs, cs => ∃ c0 c1, cs = c0 ++ c1 ∧ Rd w x c0 ∧ RdAll w xs c1
def RdRow (w : World) (sz b : Nat) : Nat → List D → Prop
  | _, [] => True
  | o, x :: xs => (∃ c, c.length = sz ∧ Rd w x c ∧ ∀ j v, c[j]? = some v → w.cell? ⟨b, o + j, none⟩ = some v) ∧ RdRow w sz b (o + sz) xs
end

/-- A piece of the heap: block, element type, cells. -/
abbrev Hp := List (Nat × Nat × Array Value)

/-- A slice value over a block of its own, as data alone: n elements of sz cells. -/
def RowV (e sz : Nat) (v : Value) (n : Nat) (cells : List Value) (hp : Hp) : Prop :=
  cells.length = n * sz ∧ ((v = .slice none 0 0 ∧ n = 0 ∧ hp = []) ∨
    ∃ g cap cur, v = .slice (some ⟨g, 0, none⟩) n cap ∧ n ≤ cap ∧ cap ≤ maxLen ∧ cur.size = cap * sz ∧ cur.toList.take (n * sz) = cells ∧ hp = [(g, e, cur)])

mutual
/-- The cells cs, over the heap pieces h alone, are the datum: no piece serves twice (told beside: Nd). -/
def Lay : D → List Value → Hp → Prop
  | .int k n, cs, h => cs = [.int k n] ∧ h = []
  | .bool b, cs, h => cs = [.bool b] ∧ h = []
  | .str s, cs, h => cs = [.string s] ∧ h = []
  | .slice e sz xs, cs, h => ∃ v cells h0 h1, cs = [v] ∧ h = h0 ++ h1 ∧ RowV e sz v xs.length cells h0 ∧ LayRow sz xs cells h1
  | .agg fs, cs, h => LayAll fs cs h
def LayAll : List D → List Value → Hp → Prop
  | [], cs, h => cs = [] ∧ h = []
  | x :: xs, cs, h => ∃ c0 c1 h0 h1, cs = c0 ++ c1 ∧ h = h0 ++ h1 ∧ Lay x c0 h0 ∧ LayAll xs c1 h1
def LayRow (sz : Nat) : List D → List Value → Hp → Prop
  | [], cs, h => cs = [] ∧ h = []
  | x :: xs, cs, h => ∃ c0 c1 h0 h1, cs = c0 ++ c1 ∧ h = h0 ++ h1 ∧ c0.length = sz ∧ Lay x c0 h0 ∧ LayRow sz xs c1 h1
end

/-- The pieces lie in the world. -/
def In (w : World) (h : Hp) : Prop := ∀ p ∈ h, w.heap[p.1]? = some (.cells p.2.2 p.2.1 (0, 0))
/-- The blocks of some pieces. -/
def Hp.bs (h : Hp) : List Nat := h.map (·.1)
/-- All as it was but for the blocks of S; blocks may have come. -/
structure Upd (S : Nat → Prop) (w w' : World) : Prop where
  os : w'.os = w.os
  tape : w'.tape = w.tape
  output : w'.output = w.output
  size : w.heap.size ≤ w'.heap.size
  block : ∀ k, k < w.heap.size → ¬ S k → w'.heap[k]? = w.heap[k]?

/-! ### The world's steps -/
theorem Upd.of_below {w w' : World} (h : Below w.heap.size w w') (S : Nat → Prop) : Upd S w w' := ⟨h.os, h.tape, h.output, h.size, fun k hk _ => h.block k hk⟩
theorem Upd.below {w w' : World} {S : Nat → Prop} (h : Upd S w w') {B : Nat} (hB : B ≤ w.heap.size) (hS : ∀ k, S k → B ≤ k) : Below B w w' :=
  ⟨h.os, h.tape, h.output, h.size, fun k hk => h.block k (by omega) (fun hs => by have := hS k hs; omega)⟩
theorem Upd.refl (S : Nat → Prop) (w : World) : Upd S w w := ⟨rfl, rfl, rfl, Nat.le_refl _, fun _ _ _ => rfl⟩
theorem Upd.mono {S T : Nat → Prop} {w w' : World} (h : Upd S w w') (hs : ∀ k, S k → T k) : Upd T w w' := ⟨h.os, h.tape, h.output, h.size, fun k hk hn => h.block k hk (fun x => hn (hs k x))⟩
theorem Upd.trans {S : Nat → Prop} {a b c : World} (h : Upd S a b) (k : Upd (fun i => S i ∨ a.heap.size ≤ i) b c) : Upd S a c :=
  ⟨k.os.trans h.os, k.tape.trans h.tape, k.output.trans h.output, Nat.le_trans h.size k.size, fun i hi hn => (k.block i (Nat.lt_of_lt_of_le hi h.size) (fun x => x.elim hn (fun x => by omega))).trans (h.block i hi hn)⟩
theorem Upd.trans' {S : Nat → Prop} {a b c : World} (h : Upd S a b) (k : Upd S b c) : Upd S a c := h.trans (k.mono fun _ x => .inl x)
theorem Upd.alloc {S : Nat → Prop} {a w : World} (h : Upd S a w) (o : Obj) : Upd S a (w.alloc o) :=
  h.trans ⟨rfl, rfl, rfl, by simp, fun k hk _ => Below.heap_alloc w o k hk⟩
theorem Upd.setCell {S : Nat → Prop} {a w : World} (h : Upd S a w) {p : Addr} (hp : S p.block ∨ a.heap.size ≤ p.block) (u : Value) : Upd S a (w.setCell p u) :=
  h.trans ⟨rfl, rfl, rfl, by simp [World.setCell], fun k hk hn => Below.heap_setCell w p u k (fun e => hn (e ▸ hp))⟩
theorem Upd.drew {S : Nat → Prop} {a w : World} (h : Upd S a w) : Upd S a w.drew := ⟨h.os, h.tape, h.output, h.size, h.block⟩
theorem Upd.cell {S : Nat → Prop} {w w' : World} (h : Upd S w w') {p : Addr} {v : Value} (hc : w.cell? p = some v) (hp : ¬ S p.block) : w'.cell? p = some v :=
  (World.cell?_of_block (h.block p.block (World.block_lt_of_cell? w p hc) hp)).trans hc

theorem In.lt {w : World} {h : Hp} (hi : In w h) : ∀ b ∈ h.bs, b < w.heap.size := by
  intro b hb
  obtain ⟨p, hp, rfl⟩ := List.mem_map.1 hb
  exact (Array.getElem?_eq_some_iff.1 (hi p hp)).1
theorem In.nil (w : World) : In w [] := fun _ h => nomatch h
theorem In.append {w : World} {h h' : Hp} : In w (h ++ h') ↔ In w h ∧ In w h' :=
  ⟨fun hi => ⟨fun p hp => hi p (List.mem_append_left _ hp), fun p hp => hi p (List.mem_append_right _ hp)⟩, fun ⟨a, b⟩ p hp => (List.mem_append.1 hp).elim (a p) (b p)⟩
theorem In.cons {w : World} {p : Nat × Nat × Array Value} {h : Hp} : In w (p :: h) ↔ w.heap[p.1]? = some (.cells p.2.2 p.2.1 (0, 0)) ∧ In w h :=
  ⟨fun hi => ⟨hi p List.mem_cons_self, fun q hq => hi q (List.mem_cons_of_mem _ hq)⟩, fun ⟨a, b⟩ q hq => (List.mem_cons.1 hq).elim (fun e => e ▸ a) (b q)⟩
theorem In.upd {w w' : World} {S : Nat → Prop} {h : Hp} (hi : In w h) (hu : Upd S w w') (hs : ∀ b ∈ h.bs, ¬ S b) : In w' h := fun p hp =>
  (hu.block p.1 (Array.getElem?_eq_some_iff.1 (hi p hp)).1 (hs p.1 (List.mem_map.2 ⟨p, hp, rfl⟩))).trans (hi p hp)
theorem In.below {w w' : World} {h : Hp} (hi : In w h) (hu : Below w.heap.size w w') : In w' h := hi.upd (Upd.of_below hu (fun _ => False)) (fun _ _ x => x)
theorem bs_append (h h' : Hp) : (h ++ h').bs = h.bs ++ h'.bs := List.map_append
theorem bs_nil : Hp.bs [] = [] := rfl

/-! ### Reading goes on -/
theorem length_rd {w : World} {e sz : Nat} {xs : List D} {cs : List Value} (h : Rd w (.slice e sz xs) cs) : xs.length ≤ maxLen := by
  simp only [Rd] at h
  obtain ⟨A, cap, _, h1, h2, _⟩ := h
  omega
mutual
theorem Rd.move {w w' : World} (hc : ∀ a v, w.cell? a = some v → w'.cell? a = some v) : ∀ (d : D) (cs : List Value), Rd w d cs → Rd w' d cs
  | .int _ _, _, h => by simpa only [Rd] using h
  | .bool _, _, h => by simpa only [Rd] using h
  | .str _, _, h => by simpa only [Rd] using h
  | .slice _ sz xs, _, h => by
    simp only [Rd] at h ⊢
    obtain ⟨A, cap, h1, h2, h3, h4⟩ := h
    refine ⟨A, cap, h1, h2, h3, h4.imp (fun x => x) ?_⟩
    rintro ⟨b, o, hA, hr⟩
    exact ⟨b, o, hA, RdRow.move hc sz b xs o hr⟩
  | .agg fs, cs, h => by
    simp only [Rd] at h ⊢
    exact RdAll.move hc fs cs h
theorem RdAll.move {w w' : World} (hc : ∀ a v, w.cell? a = some v → w'.cell? a = some v) : ∀ (ds : List D) (cs : List Value), RdAll w ds cs → RdAll w' ds cs
  | [], _, h => by simpa only [RdAll] using h
  | x :: xs, cs, h => by
    simp only [RdAll] at h ⊢
    obtain ⟨c0, c1, h0, h1, h2⟩ := h
    exact ⟨c0, c1, h0, Rd.move hc x c0 h1, RdAll.move hc xs c1 h2⟩
theorem RdRow.move {w w' : World} (hc : ∀ a v, w.cell? a = some v → w'.cell? a = some v) (sz b : Nat) : ∀ (ds : List D) (o : Nat), RdRow w sz b o ds → RdRow w' sz b o ds
  | [], _, _ => by simp only [RdRow]
  | x :: xs, o, h => by
    simp only [RdRow] at h ⊢
    obtain ⟨⟨c, h0, h1, h2⟩, h3⟩ := h
    exact ⟨⟨c, h0, Rd.move hc x c h1, fun j v hj => hc _ _ (h2 j v hj)⟩, RdRow.move hc sz b xs _ h3⟩
end
theorem Rd.below {w w' : World} {d : D} {cs : List Value} (h : Rd w d cs) (hb : Below w.heap.size w w') : Rd w' d cs :=
  Rd.move (fun a v hv => (hb.cell (World.block_lt_of_cell? w a hv)).trans hv) d cs h

/-- Element i of a row that reads. -/
theorem RdRow.get {w : World} {sz b : Nat} : ∀ {xs : List D} {o : Nat}, RdRow w sz b o xs → ∀ (i : Nat) (hi : i < xs.length), ∃ c, c.length = sz ∧ Rd w xs[i] c ∧ ∀ j v, c[j]? = some v → w.cell? ⟨b, o + i * sz + j, none⟩ = some v
  | [], _, _, i, hi => absurd hi (by simp)
  | x :: xs, o, h, 0, _ => by
    simp only [RdRow] at h
    obtain ⟨c, h0, h1, h2⟩ := h.1
    exact ⟨c, h0, h1, fun j v hj => by rw [Nat.zero_mul, Nat.add_zero]; exact h2 j v hj⟩
  | x :: xs, o, h, i + 1, hi => by
    simp only [RdRow] at h
    obtain ⟨c, h0, h1, h2⟩ := RdRow.get h.2 i (by simpa using hi)
    refine ⟨c, h0, by simpa using h1, fun j v hj => ?_⟩
    have := h2 j v hj
    rw [show o + (i + 1) * sz + j = o + sz + i * sz + j by rw [Nat.succ_mul]; omega]
    exact this

/-! ### What is one's own reads -/
theorem cell_of_blk {w : World} {b e : Nat} {cur : Array Value} (h : w.heap[b]? = some (.cells cur e (0, 0))) (j : Nat) : w.cell? ⟨b, j, none⟩ = cur[j]? := by
  simp [World.cell?, h]
theorem free_of_blk {w : World} {b e : Nat} {cur : Array Value} (h : w.heap[b]? = some (.cells cur e (0, 0))) (j : Nat) : w.frozen? ⟨b, j, none⟩ = false := by
  simp [World.frozen?, h]
mutual
theorem Lay.rd {w : World} : ∀ (d : D) (cs : List Value) (h : Hp), Lay d cs h → In w h → Rd w d cs
  | .int _ _, _, _, h, _ => by simp only [Lay] at h; simp only [Rd]; exact h.1
  | .bool _, _, _, h, _ => by simp only [Lay] at h; simp only [Rd]; exact h.1
  | .str _, _, _, h, _ => by simp only [Lay] at h; simp only [Rd]; exact h.1
  | .slice _ sz xs, cs, h, hl, hi => by
    simp only [Lay] at hl
    simp only [Rd]
    obtain ⟨v, cells, h0, h1, rfl, rfl, ⟨hcl, hv⟩, hr⟩ := hl
    obtain ⟨hi0, hi1⟩ := In.append.1 hi
    rcases hv with ⟨rfl, hn, _⟩ | ⟨g, cap, cur, rfl, hn, hm, hs, ht, rfl⟩
    · exact ⟨none, 0, by rw [hn], by omega, by simp [maxLen], .inl hn⟩
    · refine ⟨some ⟨g, 0, none⟩, cap, rfl, hn, hm, .inr ⟨g, 0, rfl, ?_⟩⟩
      have hb := hi0 (g, _, cur) List.mem_cons_self
      refine LayRow.rd xs cells h1 hr hi1 0 fun j u hj => ?_
      rw [cell_of_blk hb, Nat.zero_add]
      rw [← ht, List.getElem?_take] at hj
      split at hj
      · simpa using hj
      · cases hj
  | .agg fs, cs, h, hl, hi => by
    simp only [Lay] at hl
    simp only [Rd]
    exact LayAll.rd fs cs h hl hi
theorem LayAll.rd {w : World} : ∀ (ds : List D) (cs : List Value) (h : Hp), LayAll ds cs h → In w h → RdAll w ds cs
  | [], _, _, h, _ => by simp only [LayAll] at h; simp only [RdAll]; exact h.1
  | x :: xs, _, _, hl, hi => by
    simp only [LayAll] at hl
    simp only [RdAll]
    obtain ⟨c0, c1, h0, h1, rfl, rfl, a, b⟩ := hl
    obtain ⟨hi0, hi1⟩ := In.append.1 hi
    exact ⟨c0, c1, rfl, Lay.rd x c0 h0 a hi0, LayAll.rd xs c1 h1 b hi1⟩
theorem LayRow.rd {w : World} {sz b : Nat} : ∀ (ds : List D) (cs : List Value) (h : Hp), LayRow sz ds cs h → In w h → ∀ o, (∀ j v, cs[j]? = some v → w.cell? ⟨b, o + j, none⟩ = some v) → RdRow w sz b o ds
  | [], _, _, _, _, _, _ => by simp only [RdRow]
  | x :: xs, _, _, hl, hi, o, hc => by
    simp only [LayRow] at hl
    simp only [RdRow]
    obtain ⟨c0, c1, h0, h1, rfl, rfl, hs, a, r⟩ := hl
    obtain ⟨hi0, hi1⟩ := In.append.1 hi
    refine ⟨⟨c0, hs, Lay.rd x c0 h0 a hi0, fun j v hj => hc j v ?_⟩, LayRow.rd xs c1 h1 r hi1 (o + sz) fun j v hj => ?_⟩
    · rw [List.getElem?_append_left (List.getElem?_eq_some_iff.1 hj).1]; exact hj
    · rw [show o + sz + j = o + (sz + j) by omega]
      refine hc _ _ ?_
      rw [List.getElem?_append_right (by omega), hs, Nat.add_sub_cancel_left]
      exact hj
end
/-- What was made from block B on: its pieces, no block twice. -/
structure Own (w : World) (B : Nat) (d : D) (cs : List Value) (h : Hp) : Prop where
  lay : Lay d cs h
  in_ : In w h
  nd : h.bs.Nodup
  lo : ∀ b ∈ h.bs, B ≤ b
theorem Own.rd {w : World} {B : Nat} {d : D} {cs : List Value} {h : Hp} (o : Own w B d cs h) : Rd w d cs := Lay.rd d cs h o.lay o.in_
theorem Own.upd {w w' : World} {B : Nat} {d : D} {cs : List Value} {h : Hp} {S : Nat → Prop} (o : Own w B d cs h) (hu : Upd S w w') (hs : ∀ b ∈ h.bs, ¬ S b) : Own w' B d cs h := ⟨o.lay, o.in_.upd hu hs, o.nd, o.lo⟩
theorem Own.below {w w' : World} {B : Nat} {d : D} {cs : List Value} {h : Hp} (o : Own w B d cs h) (hu : Below w.heap.size w w') : Own w' B d cs h := ⟨o.lay, o.in_.below hu, o.nd, o.lo⟩
theorem Own.lt {w : World} {B : Nat} {d : D} {cs : List Value} {h : Hp} (o : Own w B d cs h) : ∀ b ∈ h.bs, b < w.heap.size := o.in_.lt
theorem Own.lower {w : World} {B B' : Nat} {d : D} {cs : List Value} {h : Hp} (o : Own w B d cs h) (hb : B' ≤ B) : Own w B' d cs h := ⟨o.lay, o.in_, o.nd, fun b hb' => Nat.le_trans hb (o.lo b hb')⟩

mutual
def D.cnt : D → Nat
  | .int _ _ => 0
  | .bool _ => 0
  | .str _ => 0
  | .slice _ _ xs => xs.length + D.cnts xs
  | .agg fs => D.cnts fs
def D.cnts : List D → Nat
  | [] => 0
  | x :: xs => D.cnt x + D.cnts xs
end
/-- What a counting down of room answers: no room, or what is left. -/
def Left (left : Int) (n : Nat) (l : Int) : Prop := l = -1 ∨ (0 ≤ l ∧ l + n = left)
theorem cnts_drop : ∀ (xs : List D) (j : Nat) (h : j < xs.length), D.cnts (xs.drop j) = D.cnt xs[j] + D.cnts (xs.drop (j + 1)) := by
  intro xs j h
  rw [List.drop_eq_getElem_cons h, D.cnts]
theorem bcell {W w1 : World} (hb : Below W.heap.size W w1) : (∀ b o, b < W.heap.size → w1.cell? ⟨b, o, none⟩ = W.cell? ⟨b, o, none⟩) ∧ (∀ b o, b < W.heap.size → w1.frozen? ⟨b, o, none⟩ = W.frozen? ⟨b, o, none⟩) :=
  ⟨fun b o h => hb.cell (p := ⟨b, o, none⟩) h, fun b o h => hb.frozen (p := ⟨b, o, none⟩) h⟩
theorem Below.cell' {w w1 : World} (h : Below w.heap.size w w1) {a : Addr} {v : Value} (hc : w.cell? a = some v) : w1.cell? a = some v := (h.cell (World.block_lt_of_cell? w a hc)).trans hc
theorem below_all {w W w1 : World} (h : Below w.heap.size w W) (k : Below W.heap.size W w1) : Below w.heap.size w w1 := h.trans (k.mono h.size)
theorem below_box {w : World} (o : Obj) : Below w.heap.size w (w.alloc o) := (Below.refl _ _).alloc (Nat.le_refl _) _
theorem below_new {w W : World} (h : Below w.heap.size w W) (o : Obj) : Below w.heap.size w (W.alloc o) := h.alloc h.size o
theorem below_set {w W : World} (h : Below w.heap.size w W) {p : Addr} (hp : w.heap.size ≤ p.block) (u : Value) : Below w.heap.size w (W.setCell p u) := h.setCell hp u
theorem below_drew {w W : World} (h : Below w.heap.size w W) : Below w.heap.size w W.drew := h.drew
/-! ### Building and opening what is laid -/
section
variable {k : IntKind} {n : Int} {b : Bool} {e sz : Nat} {xs r fs : List D} {cs : List Value} {v : Value} {h h0 h1 : Hp}
theorem LayAll.nil_ : LayAll [] [] [] := by simp only [LayAll]; exact ⟨trivial, trivial⟩
theorem LayAll.int_ (a : LayAll r cs h) : LayAll (.int k n :: r) (.int k n :: cs) h := by
  rw [LayAll]; exact ⟨[_], cs, [], h, rfl, rfl, by simp only [Lay]; exact ⟨trivial, trivial⟩, a⟩
theorem LayAll.bool_ (a : LayAll r cs h) : LayAll (.bool b :: r) (.bool b :: cs) h := by
  rw [LayAll]; exact ⟨[_], cs, [], h, rfl, rfl, by simp only [Lay]; exact ⟨trivial, trivial⟩, a⟩
theorem LayAll.sl_ (a : Lay (.slice e sz xs) [v] h0) (c : LayAll r cs h1) : LayAll (.slice e sz xs :: r) (v :: cs) (h0 ++ h1) := by
  rw [LayAll]; exact ⟨[v], cs, h0, h1, rfl, rfl, a, c⟩
theorem LayAll.slast (a : Lay (.slice e sz xs) [v] h0) : LayAll [.slice e sz xs] [v] h0 := by
  have := LayAll.sl_ a LayAll.nil_
  rwa [List.append_nil] at this
theorem Lay.agg_ (a : LayAll fs cs h) : Lay (.agg fs) cs h := by rw [Lay]; exact a
theorem Lay.open_agg (a : Lay (.agg fs) cs h) : LayAll fs cs h := by rw [Lay] at a; exact a
theorem LayAll.open_nil (a : LayAll [] cs h) : cs = [] ∧ h = [] := by simpa only [LayAll] using a
theorem LayAll.open_int (a : LayAll (.int k n :: r) cs h) : ∃ cs', cs = .int k n :: cs' ∧ LayAll r cs' h := by
  rw [LayAll] at a
  obtain ⟨c0, c1, h0, h1, rfl, rfl, p, q⟩ := a
  simp only [Lay] at p
  obtain ⟨rfl, rfl⟩ := p
  exact ⟨c1, rfl, q⟩
theorem LayAll.open_bool (a : LayAll (.bool b :: r) cs h) : ∃ cs', cs = .bool b :: cs' ∧ LayAll r cs' h := by
  rw [LayAll] at a
  obtain ⟨c0, c1, h0, h1, rfl, rfl, p, q⟩ := a
  simp only [Lay] at p
  obtain ⟨rfl, rfl⟩ := p
  exact ⟨c1, rfl, q⟩
theorem LayAll.open_sl (a : LayAll (.slice e sz xs :: r) cs h) : ∃ v cs' h0 h1, cs = v :: cs' ∧ h = h0 ++ h1 ∧ Lay (.slice e sz xs) [v] h0 ∧ LayAll r cs' h1 := by
  rw [LayAll] at a
  obtain ⟨c0, c1, h0, h1, rfl, rfl, p, q⟩ := a
  have p' := p
  rw [Lay] at p'
  obtain ⟨v, _, _, _, rfl, _⟩ := p'
  exact ⟨v, c1, h0, h1, rfl, rfl, p, q⟩
/-- The same of what is read. -/
theorem RdAll.open_nil {w : World} (a : RdAll w [] cs) : cs = [] := by simpa only [RdAll] using a
theorem RdAll.open_int {w : World} (a : RdAll w (.int k n :: r) cs) : ∃ cs', cs = .int k n :: cs' ∧ RdAll w r cs' := by
  rw [RdAll] at a
  obtain ⟨c0, c1, rfl, p, q⟩ := a
  simp only [Rd] at p
  subst p
  exact ⟨c1, rfl, q⟩
theorem RdAll.open_bool {w : World} (a : RdAll w (.bool b :: r) cs) : ∃ cs', cs = .bool b :: cs' ∧ RdAll w r cs' := by
  rw [RdAll] at a
  obtain ⟨c0, c1, rfl, p, q⟩ := a
  simp only [Rd] at p
  subst p
  exact ⟨c1, rfl, q⟩
theorem RdAll.open_sl {w : World} (a : RdAll w (.slice e sz xs :: r) cs) : ∃ v cs', cs = v :: cs' ∧ Rd w (.slice e sz xs) [v] ∧ RdAll w r cs' := by
  rw [RdAll] at a
  obtain ⟨c0, c1, rfl, p, q⟩ := a
  have p' := p
  rw [Rd] at p'
  obtain ⟨A, cap, rfl, _⟩ := p'
  exact ⟨_, c1, rfl, p, q⟩
theorem Rd.open_agg {w : World} (a : Rd w (.agg fs) cs) : RdAll w fs cs := by rw [Rd] at a; exact a
theorem Rd.agg_ {w : World} (a : RdAll w fs cs) : Rd w (.agg fs) cs := by rw [Rd]; exact a
theorem RdAll.nil_ {w : World} : RdAll w [] [] := by simp only [RdAll]
theorem RdAll.int_ {w : World} (a : RdAll w r cs) : RdAll w (.int k n :: r) (.int k n :: cs) := by
  rw [RdAll]; exact ⟨[_], cs, rfl, by simp only [Rd], a⟩
theorem RdAll.bool_ {w : World} (a : RdAll w r cs) : RdAll w (.bool b :: r) (.bool b :: cs) := by
  rw [RdAll]; exact ⟨[_], cs, rfl, by simp only [Rd], a⟩
theorem RdAll.sl_ {w : World} (a : Rd w (.slice e sz xs) [v]) (c : RdAll w r cs) : RdAll w (.slice e sz xs :: r) (v :: cs) := by
  rw [RdAll]; exact ⟨[v], cs, rfl, a, c⟩
end
/-- Two that were made one behind the other. -/
theorem Own.nodup2 {w0 w1 : World} {B : Nat} {d d' : D} {cs cs' : List Value} {h h' : Hp} (a : Own w0 B d cs h) (b : Own w1 w0.heap.size d' cs' h') : (h ++ h').bs.Nodup := by
  rw [bs_append]
  exact List.nodup_append.2 ⟨a.nd, b.nd, fun x hx y hy e => by have := a.lt x hx; have := b.lo y hy; omega⟩
theorem Upd.then_below {S : Nat → Prop} {a b c : World} (h : Upd S a b) (k : Below b.heap.size b c) : Upd S a c := h.trans (Upd.of_below k _)
/-- What was made since B stands, whatever is written below B. -/
theorem Own.keep {w w' : World} {B : Nat} {d : D} {cs : List Value} {h : Hp} (o : Own w B d cs h) (hu : Upd (fun k => k < B) w w') : Own w' B d cs h := o.upd hu (fun b hb hs => by have := o.lo b hb; omega)
/-- Two parts, made one behind the other, are one. -/
theorem Own.two {w w1 w2 : World} {B B1 B2 : Nat} {d d1 d2 : D} {cs c1 c2 : List Value} {h1 h2 : Hp} (a : Own w1 B1 d1 c1 h1) (b : Own w2 B2 d2 c2 h2) (i1 : In w h1) (i2 : In w h2) (h12 : w1.heap.size ≤ B2) (hB1 : B ≤ B1) (hB2 : B ≤ B2) (l : Lay d cs (h1 ++ h2)) : Own w B d cs (h1 ++ h2) :=
  ⟨l, In.append.2 ⟨i1, i2⟩, by
    rw [bs_append]
    exact List.nodup_append.2 ⟨a.nd, b.nd, fun x hx y hy e => by have := a.lt x hx; have := b.lo y hy; omega⟩,
   fun x hx => by
    rw [bs_append] at hx
    rcases List.mem_append.1 hx with h | h
    · exact Nat.le_trans hB1 (a.lo x h)
    · exact Nat.le_trans hB2 (b.lo x h)⟩
end Go.Proofs.Ytedlhhhfifdnfaa
