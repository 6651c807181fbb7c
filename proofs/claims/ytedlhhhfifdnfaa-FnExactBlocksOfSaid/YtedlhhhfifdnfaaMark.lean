/- Words of this session's own: a row of one's own whose elements are written one behind the other. No program in sight. -/
import Derived.Test.YtedlhhhfifdnfaaGen
set_option linter.unusedVariables false
set_option linter.unusedSimpArgs false
namespace Go.Proofs.Ytedlhhhfifdnfaa
open Go.RowKit

/-- Numbers, counted up: what 'held' asks of a list's elements. -/
def HdL {α : Type} (P : α → Int → Int → Prop) : List α → Int → Int → Prop
  | [], k, k2 => k2 = k
  | x :: xs, k, k2 => ∃ k1, P x k k1 ∧ HdL P xs k1 k2
def HdI (y k k2 : Int) : Prop := y = k ∧ k2 = k + 1
def HdU (y k k2 : Int) : Prop := y = k % 4294967296 ∧ k2 = k + 1
theorem HdL.mono {α : Type} {P : α → Int → Int → Prop} (hp : ∀ x k k2, P x k k2 → k ≤ k2) : ∀ (xs : List α) (k k2 : Int), HdL P xs k k2 → k ≤ k2
  | [], k, k2, h => by simp only [HdL] at h; omega
  | x :: xs, k, k2, h => by
    simp only [HdL] at h
    obtain ⟨k1, h1, h2⟩ := h
    have a := hp x k k1 h1
    have b := HdL.mono hp xs k1 k2 h2
    omega
theorem HdL.snoc {α : Type} {P : α → Int → Int → Prop} {x : α} {k1 k2 : Int} (hx : P x k1 k2) : ∀ (xs : List α) (k : Int), HdL P xs k k1 → HdL P (xs ++ [x]) k k2
  | [], k, h => by
    simp only [HdL] at h
    subst h
    exact ⟨k2, hx, rfl⟩
  | y :: ys, k, h => by
    simp only [HdL] at h
    obtain ⟨k0, h1, h2⟩ := h
    exact ⟨k0, h1, HdL.snoc hx ys k0 h2⟩
theorem HdL.drop {α : Type} {P : α → Int → Int → Prop} {xs : List α} {j : Nat} (hj : j < xs.length) {k k2 : Int} (h : HdL P (xs.drop j) k k2) : ∃ k1, P xs[j] k k1 ∧ HdL P (xs.drop (j + 1)) k1 k2 := by
  rw [List.drop_eq_getElem_cons hj, HdL] at h
  exact h
theorem HdI.mono (x k k2 : Int) (h : HdI x k k2) : k ≤ k2 := by have := h.2; omega
theorem HdU.mono (x k k2 : Int) (h : HdU x k k2) : k ≤ k2 := by have := h.2; omega

/-- A row at block g of n elements (sz cells each): the first are the data ds1 (over h1), then comes one whose cells are cx (over hx), then ds2 (over h2). H: the pieces when all began. -/
structure MkEl (w0 w : World) (g e sz n cap : Nat) (H : Hp) (ds1 ds2 : List D) (h1 hx h2 : Hp) (cx : List Value) : Prop where
  blk : ∃ cur c1 c2, w.heap[g]? = some (.cells cur e (0, 0)) ∧ cur.size = cap * sz ∧ cur.toList.take (n * sz) = c1 ++ (cx ++ c2) ∧ LayRow sz ds1 c1 h1 ∧ LayRow sz ds2 c2 h2
  len : cx.length = sz
  num : ds1.length + 1 + ds2.length = n
  cap_ : n ≤ cap
  in1 : In w h1
  inx : In w hx
  in2 : In w h2
  bs : h1.bs ++ (hx.bs ++ h2.bs) = H.bs
  nd : (g :: H.bs).Nodup
  upd : Upd (fun b => b = g ∨ b ∈ H.bs) w0 w
structure MkSt (w0 w : World) (g e sz n cap : Nat) (H : Hp) (ds1 ds2 : List D) (h1 h2 : Hp) : Prop where
  blk : ∃ cur c1 c2, w.heap[g]? = some (.cells cur e (0, 0)) ∧ cur.size = cap * sz ∧ cur.toList.take (n * sz) = c1 ++ c2 ∧ LayRow sz ds1 c1 h1 ∧ LayRow sz ds2 c2 h2
  num : ds1.length + ds2.length = n
  cap_ : n ≤ cap
  in1 : In w h1
  in2 : In w h2
  bs : h1.bs ++ h2.bs = H.bs
  nd : (g :: H.bs).Nodup
  upd : Upd (fun b => b = g ∨ b ∈ H.bs) w0 w
theorem nd_mem {a b c : List Nat} {g : Nat} {H : Hp} (hbs : a ++ (b ++ c) = H.bs) (nd : (g :: H.bs).Nodup) : (∀ x ∈ a, x ∉ b) ∧ (∀ x ∈ b, x ∉ c) ∧ (∀ x ∈ a, x ∉ c) ∧ g ∉ a ∧ g ∉ b ∧ g ∉ c := by
  rw [← hbs] at nd
  obtain ⟨hg, hn⟩ := List.nodup_cons.1 nd
  obtain ⟨_, hbc, hd⟩ := List.nodup_append.1 hn
  obtain ⟨_, _, hd2⟩ := List.nodup_append.1 hbc
  refine ⟨fun x hx hy => hd x hx x (List.mem_append_left _ hy) rfl, fun x hx hy => hd2 x hx x hy rfl, fun x hx hy => hd x hx x (List.mem_append_right _ hy) rfl, fun h => hg (List.mem_append_left _ h), fun h => hg (List.mem_append_right _ (List.mem_append_left _ h)), fun h => hg (List.mem_append_right _ (List.mem_append_right _ h))⟩
section
variable {w0 w w1 : World} {g e sz n cap : Nat} {H h1 hx h2 : Hp} {ds1 ds2 : List D} {cx : List Value} {x : D}
/-- A slice of one's own, about to be marked. -/
theorem MkSt.start {xs : List D} {g n cap : Nat} {h : Hp} (l : Lay (.slice e sz xs) [.slice (some ⟨g, 0, none⟩) n cap] h) (hin : In w h) (hnd : h.bs.Nodup) : ∃ hs cur, h = (g, e, cur) :: hs ∧ n = xs.length ∧ cap ≤ maxLen ∧ MkSt w w g e sz xs.length cap hs [] xs [] hs := by
  rw [Lay] at l
  obtain ⟨v, cells, h0, hs, hv, rfl, ⟨hcl, hr⟩, hrow⟩ := l
  obtain rfl := List.singleton_inj.1 hv
  rcases hr with ⟨hv, _⟩ | ⟨g', cap', cur, hv, hn, hm, hs', ht, rfl⟩
  · cases hv
  · injection hv with e1 e2 e3
    injection e1 with e1
    injection e1 with e1
    subst e1 e2 e3
    obtain ⟨i0, i1⟩ := In.append.1 hin
    refine ⟨hs, cur, rfl, rfl, hm, ⟨cur, [], cells, i0 _ List.mem_cons_self, hs', by rw [ht]; rfl, by simp only [LayRow]; exact ⟨trivial, trivial⟩, hrow⟩, by simp, hn, In.nil _, i1, rfl, hnd, Upd.refl _ _⟩
theorem MkSt.open_ (m : MkSt w0 w g e sz n cap H ds1 (x :: ds2) h1 h2) : ∃ cx hx h3, Lay x cx hx ∧ MkEl w0 w g e sz n cap H ds1 ds2 h1 hx h3 cx := by
  obtain ⟨cur, c1, c2, hb, hs, ht, l1, l2⟩ := m.blk
  simp only [LayRow] at l2
  obtain ⟨cx, c3, hx, h3, rfl, rfl, hl, lx, lr⟩ := l2
  obtain ⟨i1, i2⟩ := In.append.1 m.in2
  exact ⟨cx, hx, h3, lx, ⟨cur, c1, c3, hb, hs, ht, l1, lr⟩, hl, by have := m.num; simp only [List.length_cons] at this; omega, m.cap_, m.in1, i1, i2, by rw [← bs_append]; exact m.bs, m.nd, m.upd⟩
theorem MkEl.at_ (m : MkEl w0 w g e sz n cap H ds1 ds2 h1 hx h2 cx) {i : Nat} {v : Value} (hi : cx[i]? = some v) : w.cell? ⟨g, ds1.length * sz + i, none⟩ = some v := by
  obtain ⟨cur, c1, c2, hb, hs, ht, l1, l2⟩ := m.blk
  have hc1 := LayRow.len ds1 c1 h1 l1
  have hil : i < cx.length := (List.getElem?_eq_some_iff.1 hi).1
  have hml := m.len
  have hle : (ds1.length + 1) * sz ≤ n * sz := Nat.mul_le_mul_right _ (by have := m.num; omega)
  rw [Nat.succ_mul] at hle
  rw [cell_of_blk hb]
  have h3 : (cur.toList.take (n * sz))[ds1.length * sz + i]? = some v := by
    rw [ht, List.getElem?_append_right (by omega), hc1, Nat.add_sub_cancel_left, List.getElem?_append_left hil]
    exact hi
  rw [List.getElem?_take, if_pos (by omega)] at h3
  simpa using h3
theorem MkEl.free (m : MkEl w0 w g e sz n cap H ds1 ds2 h1 hx h2 cx) (o : Nat) : w.frozen? ⟨g, o, none⟩ = false := by
  obtain ⟨cur, c1, c2, hb, _⟩ := m.blk
  exact free_of_blk hb o
/-- One cell of the element is written. -/
theorem MkEl.set (m : MkEl w0 w g e sz n cap H ds1 ds2 h1 hx h2 cx) (i : Nat) (v : Value) (hi : i < sz) : MkEl w0 (w.setCell ⟨g, ds1.length * sz + i, none⟩ v) g e sz n cap H ds1 ds2 h1 hx h2 (cx.set i v) := by
  obtain ⟨cur, c1, c2, hb, hs, ht, l1, l2⟩ := m.blk
  have hc1 := LayRow.len ds1 c1 h1 l1
  have hml := m.len
  obtain ⟨n1, n2, n3, n4, n5, n6⟩ := nd_mem m.bs m.nd
  have hu : Upd (fun b => b = g) w (w.setCell ⟨g, ds1.length * sz + i, none⟩ v) := (Upd.refl (fun b => b = g) w).setCell (p := ⟨g, ds1.length * sz + i, none⟩) (.inl rfl) v
  have hle : (ds1.length + 1) * sz ≤ n * sz := Nat.mul_le_mul_right _ (by have := m.num; omega)
  rw [Nat.succ_mul] at hle
  refine ⟨⟨cur.setIfInBounds (ds1.length * sz + i) v, c1, c2, blk_setCell hb _ _, by simpa using hs, ?_, l1, l2⟩, by rw [List.length_set]; exact hml, m.num, m.cap_, m.in1.upd hu (fun b hb' he => n4 (he ▸ hb')), m.inx.upd hu (fun b hb' he => n5 (he ▸ hb')), m.in2.upd hu (fun b hb' he => n6 (he ▸ hb')), m.bs, m.nd, m.upd.setCell (.inl (.inl rfl)) v⟩
  rw [Array.toList_setIfInBounds, List.take_set, ht, List.set_append_right _ _ (by omega), hc1, Nat.add_sub_cancel_left, List.set_append_left _ _ (by omega)]
/-- A callee has written into a part of what the element leads to. -/
theorem MkEl.call {ha hb hc hb' : Hp} (m : MkEl w0 w g e sz n cap H ds1 ds2 h1 (ha ++ (hb ++ hc)) h2 cx) (hu : Upd (fun b => b ∈ hb.bs) w w1) (hi : In w1 hb') (hbs : hb'.bs = hb.bs) : MkEl w0 w1 g e sz n cap H ds1 ds2 h1 (ha ++ (hb' ++ hc)) h2 cx := by
  obtain ⟨cur, c1, c2, hbk, hs, ht, l1, l2⟩ := m.blk
  obtain ⟨n1, n2, n3, n4, n5, n6⟩ := nd_mem m.bs m.nd
  have hx2 : (ha ++ (hb ++ hc)).bs = ha.bs ++ (hb.bs ++ hc.bs) := by rw [bs_append, bs_append]
  have hnd : (ha ++ (hb ++ hc)).bs.Nodup := by
    have := m.nd
    rw [← m.bs] at this
    exact (List.nodup_append.1 (List.nodup_append.1 (List.nodup_cons.1 this).2).2.1).1
  rw [hx2] at hnd n1 n2 n5
  obtain ⟨_, hnd2, hd1⟩ := List.nodup_append.1 hnd
  obtain ⟨_, _, hd2⟩ := List.nodup_append.1 hnd2
  have hbl := (In.append.1 m.inx)
  obtain ⟨ia, ibc⟩ := hbl
  obtain ⟨_, ic⟩ := In.append.1 ibc
  have hgl : g < w.heap.size := (Array.getElem?_eq_some_iff.1 hbk).1
  refine ⟨⟨cur, c1, c2, (hu.block g hgl (fun h => n5 (List.mem_append_right _ (List.mem_append_left _ h)))).trans hbk, hs, ht, l1, l2⟩, m.len, m.num, m.cap_, m.in1.upd hu (fun b hb1 hb2 => n1 b hb1 (List.mem_append_right _ (List.mem_append_left _ hb2))), In.append.2 ⟨ia.upd hu (fun b hb1 hb2 => hd1 b hb1 b (List.mem_append_left _ hb2) rfl), In.append.2 ⟨hi, ic.upd hu (fun b hb1 hb2 => hd2 b hb2 b hb1 rfl)⟩⟩, m.in2.upd hu (fun b hb1 hb2 => n2 b (List.mem_append_right _ (List.mem_append_left _ hb2)) hb1), ?_, m.nd, ?_⟩
  · rw [bs_append, bs_append, hbs, ← bs_append, ← bs_append]; exact m.bs
  · refine m.upd.trans' (hu.mono fun b hb1 => .inr ?_)
    rw [← m.bs, hx2]
    exact List.mem_append_right _ (List.mem_append_left _ (List.mem_append_right _ (List.mem_append_left _ hb1)))
/-- The element is done. -/
theorem MkEl.close (m : MkEl w0 w g e sz n cap H ds1 ds2 h1 hx h2 cx) (l : Lay x cx hx) : MkSt w0 w g e sz n cap H (ds1 ++ [x]) ds2 (h1 ++ hx) h2 := by
  obtain ⟨cur, c1, c2, hb, hs, ht, l1, l2⟩ := m.blk
  exact ⟨⟨cur, c1 ++ cx, c2, hb, hs, by rw [ht, List.append_assoc], LayRow.snoc m.len l ds1 c1 h1 l1, l2⟩, by rw [List.length_append, List.length_singleton]; exact m.num, m.cap_, In.append.2 ⟨m.in1, m.inx⟩, m.in2, by rw [bs_append, List.append_assoc]; exact m.bs, m.nd, m.upd⟩
/-- All elements are done. -/
theorem MkSt.done (m : MkSt w0 w g e sz n cap H ds1 [] h1 h2) (hc : cap ≤ maxLen) {cur0 : Array Value} : ∃ h', Lay (.slice e sz ds1) [.slice (some ⟨g, 0, none⟩) n cap] h' ∧ h'.bs = Hp.bs ((g, e, cur0) :: H) ∧ In w h' ∧ Upd (fun b => b ∈ Hp.bs ((g, e, cur0) :: H)) w0 w := by
  obtain ⟨cur, c1, c2, hb, hs, ht, l1, l2⟩ := m.blk
  simp only [LayRow] at l2
  obtain ⟨rfl, rfl⟩ := l2
  have hn : ds1.length = n := by have := m.num; simpa using this
  rw [List.append_nil] at ht
  refine ⟨(g, e, cur) :: h1, ?_, ?_, In.cons.2 ⟨hb, m.in1⟩, m.upd.mono fun b hb => ?_⟩
  · rw [Lay]
    exact ⟨_, c1, [(g, e, cur)], h1, rfl, rfl, ⟨LayRow.len _ _ _ l1, .inr ⟨g, cap, cur, by rw [hn], by rw [hn]; exact m.cap_, hc, hs, by rw [hn]; exact ht, rfl⟩⟩, l1⟩
  · have := m.bs
    rw [bs_nil, List.append_nil] at this
    show g :: h1.bs = g :: H.bs
    rw [this]
  · rcases hb with rfl | hb
    · exact List.mem_cons_self
    · exact List.mem_cons_of_mem _ hb
end
section
variable {w0 w w1 : World} {g e sz n cap : Nat} {H h1 hx h2 : Hp} {ds1 ds2 : List D} {cx : List Value} {x : D}
theorem MkEl.at' (m : MkEl w0 w g e sz n cap H ds1 ds2 h1 hx h2 cx) {i off : Nat} {v : Value} (ho : off = ds1.length * sz + i) (hi : cx[i]? = some v) : w.cell? ⟨g, off, none⟩ = some v := by rw [ho]; exact m.at_ hi
theorem MkEl.set' (m : MkEl w0 w g e sz n cap H ds1 ds2 h1 hx h2 cx) (i : Nat) {off : Nat} (v : Value) (ho : off = ds1.length * sz + i) (hi : i < sz) : MkEl w0 (w.setCell ⟨g, off, none⟩ v) g e sz n cap H ds1 ds2 h1 hx h2 (cx.set i v) := by rw [ho]; exact m.set i v hi
theorem lay_int {k : IntKind} {n : Int} : Lay (.int k n) [.int k n] [] := by simp only [Lay]; exact ⟨trivial, trivial⟩
/-- What a slice of one's own is: nil, or at a block's head. -/
theorem lay_form {xs : List D} {v : Value} {h : Hp} (l : Lay (.slice e sz xs) [v] h) : (v = .slice none 0 0 ∧ xs = [] ∧ h = []) ∨ ∃ g cap, v = .slice (some ⟨g, 0, none⟩) xs.length cap := by
  rw [Lay] at l
  obtain ⟨u, cells, h0, hs, hv, rfl, ⟨_, hr⟩, hrow⟩ := l
  obtain rfl := List.singleton_inj.1 hv
  rcases hr with ⟨rfl, hn, rfl⟩ | ⟨g', cap', cur, rfl, _⟩
  · have hx : xs = [] := List.eq_nil_of_length_eq_zero hn
    subst hx
    simp only [LayRow] at hrow
    exact .inl ⟨rfl, rfl, by rw [hrow.2]; rfl⟩
  · exact .inr ⟨g', cap', rfl⟩
end
end Go.Proofs.Ytedlhhhfifdnfaa
