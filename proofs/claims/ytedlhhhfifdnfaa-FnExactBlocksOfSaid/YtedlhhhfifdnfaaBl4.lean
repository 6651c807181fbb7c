/- BlocksOf's state in the world. No program in sight but type numbers. -/
import Derived.Test.YtedlhhhfifdnfaaBl2
import Derived.KernelRfl
set_option linter.unusedVariables false
set_option linter.unusedSimpArgs false
namespace Go.Proofs.Ytedlhhhfifdnfaa
open Go.RowKit

/-- A row of n numbers at block g, the first of which are at_. -/
def Nums (w : World) (g n : Nat) (at_ : List Int) : Prop := ∃ cur, w.heap[g]? = some (.cells cur 2 (0, 0)) ∧ cur.size = n ∧ cur.toList.take at_.length = at_.map (Value.int .i64)
section
variable {w w' wr w1 : World} {g n : Nat} {at_ : List Int}
theorem Nums.cell (h : Nums w g n at_) (k : Nat) (hk : k < n) : ∃ v, w.cell? ⟨g, k, none⟩ = some v := by
  obtain ⟨cur, hb, hs, _⟩ := h
  exact ⟨cur[k]'(by omega), by rw [cell_of_blk hb]; simp [hs, hk]⟩
theorem Nums.get (h : Nums w g n at_) (k : Nat) (hk : k < at_.length) : w.cell? ⟨g, k, none⟩ = some (.int .i64 at_[k]) := by
  obtain ⟨cur, hb, hs, ht⟩ := h
  rw [cell_of_blk hb]
  have : (cur.toList.take at_.length)[k]? = some (.int .i64 at_[k]) := by rw [ht]; simp [hk]
  rw [List.getElem?_take, if_pos hk] at this
  simpa using this
theorem Nums.free (h : Nums w g n at_) (k : Nat) : w.frozen? ⟨g, k, none⟩ = false := by
  obtain ⟨cur, hb, _⟩ := h
  exact free_of_blk hb k
theorem Nums.push (h : Nums w g n at_) (hk : at_.length < n) (x : Int) : Nums (w.setCell ⟨g, at_.length, none⟩ (.int .i64 x)) g n (at_ ++ [x]) := by
  obtain ⟨cur, hb, hs, ht⟩ := h
  refine ⟨_, blk_setCell hb _ _, by simpa using hs, ?_⟩
  have := take_setRun [.int .i64 x] cur at_.length (by simp; omega)
  simp only [setRun, List.length_singleton] at this
  rw [List.length_append, List.length_singleton, this, ht, List.map_append]
  rfl
theorem Nums.upd (h : Nums w g n at_) {S : Nat → Prop} (hu : Upd S w w') (hs : ¬ S g) : Nums w' g n at_ := by
  obtain ⟨cur, hb, h2⟩ := h
  exact ⟨cur, (hu.block g (Array.getElem?_eq_some_iff.1 hb).1 hs).trans hb, h2⟩
theorem Nums.start {Y : Array Value} (hY : Y.size = n * 1) : Nums (w.alloc (.cells Y 2)) w.heap.size n [] := ⟨Y, heap_alloc_new w _, by omega, by simp⟩
theorem Nums.lt (h : Nums w g n at_) : g < w.heap.size := by
  obtain ⟨cur, hb, _⟩ := h
  exact (Array.getElem?_eq_some_iff.1 hb).1
end
structure BlkW (w wr : World) (g1 g2 n : Nat) (fl : List Bool) (at_ : List Int) (out : List GBlock) (v : Value) (h : Hp) : Prop where
  fl : Flags wr g1 fl
  at_ : Nums wr g2 n at_
  out : Own wr w.heap.size (D.slice 92 3 (out.map GBlock.d)) [v] h
  n1 : g1 ∉ h.bs
  n2 : g2 ∉ h.bs
  lt : w.heap.size ≤ g1 ∧ w.heap.size ≤ g2 ∧ g1 ≠ g2
  below : Below w.heap.size w wr
section
variable {w wr w' : World} {g1 g2 n : Nat} {fl : List Bool} {at_ : List Int} {out o1 o2 : List GBlock} {v v' : Value} {h h' : Hp} {b : GBlock}
theorem BlkW.start {g1 : Nat} {Y : Array Value} (hf : Flags wr g1 fl) (hY : Y.size = n * 1) (hlt : w.heap.size ≤ g1) (hb : Below w.heap.size w wr) : BlkW w ((wr.alloc (.cells #[] 92)).alloc (.cells Y 2)) g1 (wr.heap.size + 1) n fl [] [] (.slice (some ⟨wr.heap.size, 0, none⟩) 0 0) [(wr.heap.size, 92, #[])] := by
  have hu : Upd (fun _ => False) wr ((wr.alloc (.cells #[] 92)).alloc (.cells Y 2)) := ((Upd.refl _ _).alloc _).alloc _
  have hn := Nums.start (w := wr.alloc (.cells #[] 92)) (n := n) hY
  rw [show (wr.alloc (.cells #[] 92)).heap.size = wr.heap.size + 1 by simp] at hn
  have hg1 : g1 < wr.heap.size := (Array.getElem?_eq_some_iff.1 hf).1
  refine ⟨hf.upd hu (fun x => x), hn, ⟨?_, ?_, by simp [Hp.bs], by simp [Hp.bs]; omega⟩, by simp [Hp.bs]; omega, by simp [Hp.bs], ⟨hlt, by omega, by omega⟩, below_new (below_new hb _) _⟩
  · rw [Lay]
    exact ⟨_, [], [(wr.heap.size, 92, #[])], [], rfl, rfl, ⟨by simp, .inr ⟨wr.heap.size, 0, #[], by simp, by simp, by simp [maxLen], by simp, by simp, rfl⟩⟩, by simp only [List.map_nil, LayRow]; exact ⟨trivial, trivial⟩⟩
  · refine In.cons.2 ⟨?_, In.nil _⟩
    show _ = _
    rw [Below.heap_alloc _ _ _ (by simp), heap_alloc_new]
/-- The same where out was there already (the reference). -/
theorem BlkW.start' {g0 g1 : Nat} {Y : Array Value} (h0 : wr.heap[g0]? = some (.cells #[] 92 (0, 0))) (hf : Flags wr g1 fl) (hY : Y.size = n * 1) (hlt0 : w.heap.size ≤ g0) (hlt : w.heap.size ≤ g1) (hne : g0 ≠ g1) (hb : Below w.heap.size w wr) : BlkW w (wr.alloc (.cells Y 2)) g1 wr.heap.size n fl [] [] (.slice (some ⟨g0, 0, none⟩) 0 0) [(g0, 92, #[])] := by
  have hu : Upd (fun _ => False) wr (wr.alloc (.cells Y 2)) := (Upd.refl _ _).alloc _
  have hn := Nums.start (w := wr) (n := n) hY
  have hg1 : g1 < wr.heap.size := (Array.getElem?_eq_some_iff.1 hf).1
  have hg0 : g0 < wr.heap.size := (Array.getElem?_eq_some_iff.1 h0).1
  refine ⟨hf.upd hu (fun x => x), hn, ⟨?_, ?_, by simp [Hp.bs], by simp [Hp.bs]; omega⟩, by simp [Hp.bs]; omega, by simp [Hp.bs]; omega, ⟨hlt, by omega, by omega⟩, below_new hb _⟩
  · rw [Lay]
    exact ⟨_, [], [(g0, 92, #[])], [], rfl, rfl, ⟨by simp, .inr ⟨g0, 0, #[], by simp, by simp, by simp [maxLen], by simp, by simp, rfl⟩⟩, by simp only [List.map_nil, LayRow]; exact ⟨trivial, trivial⟩⟩
  · refine In.cons.2 ⟨?_, In.nil _⟩
    show _ = _
    rw [Below.heap_alloc _ _ _ hg0]
    exact h0
/-- An append to out. -/
theorem BlkW.app (B : BlkW w wr g1 g2 n fl at_ out v h) {x : GBlock} (l : Lay (D.slice 92 3 (out.map GBlock.d ++ [GBlock.d x])) [v'] h') (hi : In w' h') (hnd : h'.bs.Nodup) (hn : ∀ b ∈ h'.bs, b ∈ h.bs ∨ b ∈ Hp.bs [] ∨ wr.heap.size ≤ b) (hu : Upd (fun b => b ∈ h.bs) wr w') : BlkW w w' g1 g2 n fl at_ (out ++ [x]) v' h' := by
  have hg2 := B.at_.lt
  have hg1 := (Array.getElem?_eq_some_iff.1 B.fl).1
  have hsz := B.below.size
  have hlt := B.lt
  have hn' : ∀ b ∈ h'.bs, b ∈ h.bs ∨ wr.heap.size ≤ b := fun b hb => (hn b hb).imp id (fun h => h.elim (fun h => nomatch h) id)
  refine ⟨B.fl.upd hu B.n1, B.at_.upd hu B.n2, ⟨by rw [List.map_append]; exact l, hi, hnd, fun b hb => (hn' b hb).elim (B.out.lo b) (fun h => by omega)⟩, fun hb => (hn' _ hb).elim B.n1 (fun h => by omega), fun hb => (hn' _ hb).elim B.n2 (fun h => by omega), B.lt, B.below.trans (hu.below B.below.size B.out.lo)⟩
/-- A number is stored. -/
theorem BlkW.push (B : BlkW w wr g1 g2 n fl at_ out v h) (hk : at_.length < n) (x : Int) : BlkW w (wr.setCell ⟨g2, at_.length, none⟩ (.int .i64 x)) g1 g2 n fl (at_ ++ [x]) out v h := by
  have hu : Upd (fun b => b = g2) wr (wr.setCell ⟨g2, at_.length, none⟩ (.int .i64 x)) := (Upd.refl (fun b => b = g2) _).setCell (p := ⟨g2, at_.length, none⟩) (.inl rfl) _
  exact ⟨B.fl.upd hu (fun e => B.lt.2.2 e), B.at_.push hk x, B.out.upd hu (fun b hb e => B.n2 (e ▸ hb)), B.n1, B.n2, B.lt, below_set B.below (p := ⟨g2, at_.length, none⟩) B.lt.2.1 _⟩
/-- The block in the midst of out, in focus: its cells; what stands where one cell is written. -/
theorem BlkW.mid2 (B : BlkW w wr g1 g2 n fl at_ (o1 ++ b :: o2) v h) : ∃ g cap A p hb, v = .slice (some ⟨g, 0, none⟩) (o1.length + 1 + o2.length) cap ∧ o1.length + 1 + o2.length ≤ cap ∧ cap ≤ maxLen ∧ w.heap.size ≤ g ∧ wr.cell? ⟨g, o1.length * 3, none⟩ = some (.int .i64 b.first) ∧ wr.cell? ⟨g, o1.length * 3 + 1, none⟩ = some (.int .i64 b.last) ∧ wr.cell? ⟨g, o1.length * 3 + 2, none⟩ = some (.slice A b.next.length p) ∧ (∀ o, wr.frozen? ⟨g, o, none⟩ = false) ∧
    Lay (D.slice 2 1 (b.next.map (D.int .i64))) [.slice A b.next.length p] hb ∧ In wr hb ∧ hb.bs.Nodup ∧
    (∀ x : Int, ∃ h'', BlkW w (wr.setCell ⟨g, o1.length * 3 + 1, none⟩ (.int .i64 x)) g1 g2 n fl at_ (o1 ++ ⟨b.first, x, b.next⟩ :: o2) v h'') ∧
    (∀ (v' : Value) (w' : World) (h' : Hp) (y : List Int), Lay (D.slice 2 1 (y.map (D.int .i64))) [v'] h' → In w' h' → h'.bs.Nodup → (∀ b ∈ h'.bs, b ∈ hb.bs ∨ wr.heap.size ≤ b) → Upd (fun b => b ∈ hb.bs) wr w' →
      w'.cell? ⟨g, o1.length * 3 + 2, none⟩ = some (.slice A b.next.length p) ∧ w'.frozen? ⟨g, o1.length * 3 + 2, none⟩ = false ∧ ∃ h'', BlkW w (w'.setCell ⟨g, o1.length * 3 + 2, none⟩ v') g1 g2 n fl at_ (o1 ++ ⟨b.first, b.last, y⟩ :: o2) v h'') ∧ (∀ x ∈ hb.bs, w.heap.size ≤ x ∧ x ≠ g ∧ x ≠ g1 ∧ x ≠ g2) := by
  have hj : o1.length < ((o1 ++ b :: o2).map GBlock.d).length := by simp
  obtain ⟨g, cap, cur, h1, hx, h2, cx, rfl, hm, hg, hlo, rfl, lx, el⟩ := B.out.focus hj
  have e1 : ((o1 ++ b :: o2).map GBlock.d).take o1.length = o1.map GBlock.d := by
    rw [List.map_append, List.take_left' (by simp)]
  have e2 : ((o1 ++ b :: o2).map GBlock.d).drop (o1.length + 1) = o2.map GBlock.d := by
    rw [List.map_append, List.map_cons, List.drop_append]
    simp
  have e3 : ((o1 ++ b :: o2).map GBlock.d)[o1.length] = GBlock.d b := by simp
  have e4 : ((o1 ++ b :: o2).map GBlock.d).length = o1.length + 1 + o2.length := by simp; omega
  rw [e1, e2] at el
  rw [e3] at lx
  rw [e4] at el ⊢
  obtain ⟨A1, p1, _, rfl, rfl, l1⟩ := GBlock.lay_open lx
  have hcap := el.cap_
  have hbsx : hx.bs.Nodup := by
    have hn := el.nd
    rw [← el.bs] at hn
    exact (List.nodup_append.1 (List.nodup_append.1 (List.nodup_cons.1 hn).2).2.1).1
  have n1 := B.n1
  have n2 := B.n2
  have hd1 : (o1.map GBlock.d).length = o1.length := by simp
  have up1 : ∀ (W : World) (S : Nat → Prop), Upd S wr W → ¬ S g1 → ¬ S g2 → (∀ b, S b → w.heap.size ≤ b) → Flags W g1 fl ∧ Nums W g2 n at_ ∧ Below w.heap.size w W := fun W S hu hs1 hs2 hs3 => ⟨B.fl.upd hu hs1, B.at_.upd hu hs2, B.below.trans (hu.below B.below.size hs3)⟩
  have hgn1 : g1 ≠ g := fun e => n1 (e ▸ List.mem_cons_self)
  have hgn2 : g2 ≠ g := fun e => n2 (e ▸ List.mem_cons_self)
  refine ⟨g, cap, A1, p1, hx, rfl, hcap, hm, hg, el.at' (i := 0) (by simp) rfl, el.at' (i := 1) (by simp) rfl, el.at' (i := 2) (by simp) rfl, el.free, l1, el.inx, hbsx, fun x => ?_, fun v' w' h' y l' hi' hnd' hnew hu => ?_, fun x hx' => ?_⟩
  · have el2 := el.set' 1 (off := o1.length * 3 + 1) (.int .i64 x) (by simp) (by omega)
    obtain ⟨h'', ow, hbs⟩ := el2.own (B := w.heap.size) (x := GBlock.d ⟨b.first, x, b.next⟩) (GBlock.lay_ (x := ⟨b.first, x, b.next⟩) l1) hm hg hlo
    obtain ⟨q1, q2, q3⟩ := up1 _ (fun k => k = g) ((Upd.refl (fun b => b = g) wr).setCell (p := ⟨g, o1.length * 3 + 1, none⟩) (.inl rfl) (.int .i64 x)) hgn1 hgn2 (fun k e => e ▸ hg)
    refine ⟨h'', q1, q2, ?_, by rw [hbs]; exact n1, by rw [hbs]; exact n2, B.lt, q3⟩
    have e5 : (o1 ++ (⟨b.first, x, b.next⟩ : GBlock) :: o2).map GBlock.d = o1.map GBlock.d ++ GBlock.d ⟨b.first, x, b.next⟩ :: o2.map GBlock.d := by simp
    rw [e5]
    exact ow
  · have el1 := MkEl.grow (ha := []) (hb := hx) (hc := []) (by simpa only [List.nil_append, List.append_nil] using el) hu hi' hnd' hnew
    simp only [List.nil_append, List.append_nil] at el1
    have el2 := el1.set' 2 (off := o1.length * 3 + 2) v' (by simp) (by omega)
    have hlt2 : ∀ b ∈ h'.bs, w.heap.size ≤ b ∧ b ≠ g1 ∧ b ≠ g2 := fun b hb => by
      rcases hnew b hb with h | h
      · have hmem : b ∈ Hp.bs ((g, 92, cur) :: (h1 ++ (hx ++ h2))) := List.mem_cons_of_mem _ (by
          show b ∈ Hp.bs (h1 ++ (hx ++ h2))
          rw [bs_append, bs_append]
          exact List.mem_append_right _ (List.mem_append_left _ h))
        exact ⟨B.out.lo b hmem, fun e => n1 (e ▸ hmem), fun e => n2 (e ▸ hmem)⟩
      · have := B.at_.lt
        have := B.lt
        have := B.below.size
        have := (Array.getElem?_eq_some_iff.1 B.fl).1
        exact ⟨by omega, by omega, by omega⟩
    have hH : ∀ b ∈ Hp.bs (h1 ++ (h' ++ h2)), w.heap.size ≤ b ∧ b ≠ g1 ∧ b ≠ g2 := fun b hb => by
      rw [bs_append, bs_append] at hb
      have hsub : ∀ b, b ∈ h1.bs ∨ b ∈ h2.bs → b ∈ Hp.bs ((g, 92, cur) :: (h1 ++ (hx ++ h2))) := fun b hb => List.mem_cons_of_mem _ (by
        show b ∈ Hp.bs (h1 ++ (hx ++ h2))
        rw [bs_append, bs_append]
        exact hb.elim (List.mem_append_left _) (fun h => List.mem_append_right _ (List.mem_append_right _ h)))
      rcases List.mem_append.1 hb with h | h
      · have := hsub b (.inl h)
        exact ⟨B.out.lo b this, fun e => n1 (e ▸ this), fun e => n2 (e ▸ this)⟩
      · rcases List.mem_append.1 h with h | h
        · exact hlt2 b h
        · have := hsub b (.inr h)
          exact ⟨B.out.lo b this, fun e => n1 (e ▸ this), fun e => n2 (e ▸ this)⟩
    obtain ⟨h'', ow, hbs⟩ := el2.own (B := w.heap.size) (x := GBlock.d ⟨b.first, b.last, y⟩) (GBlock.lay_ (x := ⟨b.first, b.last, y⟩) l') hm hg (fun b hb => (hH b hb).1)
    have hux : ∀ b, b ∈ hx.bs → b ∈ Hp.bs ((g, 92, cur) :: (h1 ++ (hx ++ h2))) := fun b h => List.mem_cons_of_mem _ (by
          show b ∈ Hp.bs (h1 ++ (hx ++ h2))
          rw [bs_append, bs_append]
          exact List.mem_append_right _ (List.mem_append_left _ h))
    have hu2 : Upd (fun b => b = g ∨ b ∈ hx.bs) wr (w'.setCell ⟨g, o1.length * 3 + 2, none⟩ v') := (hu.mono (fun b h => .inr h)).setCell (p := ⟨g, o1.length * 3 + 2, none⟩) (.inl (.inl rfl)) v'
    obtain ⟨q1, q2, q3⟩ := up1 _ _ hu2 (fun e => e.elim (fun e => hgn1 e) (fun e => n1 (hux _ e))) (fun e => e.elim (fun e => hgn2 e) (fun e => n2 (hux _ e))) (fun b e => e.elim (fun e => e ▸ hg) (fun e => B.out.lo b (hux b e)))
    refine ⟨el1.at' (i := 2) (by simp) rfl, el1.free _, h'', q1, q2, ?_, ?_, ?_, B.lt, q3⟩
    · have e5 : (o1 ++ (⟨b.first, b.last, y⟩ : GBlock) :: o2).map GBlock.d = o1.map GBlock.d ++ GBlock.d ⟨b.first, b.last, y⟩ :: o2.map GBlock.d := by simp
      rw [e5]
      exact ow
    · rw [hbs]
      exact fun h => (List.mem_cons.1 h).elim hgn1 (fun h => (hH _ h).2.1 rfl)
    · rw [hbs]
      exact fun h => (List.mem_cons.1 h).elim hgn2 (fun h => (hH _ h).2.2 rfl)
  · have hmem : x ∈ Hp.bs ((g, 92, cur) :: (h1 ++ (hx ++ h2))) := List.mem_cons_of_mem _ (by
      show x ∈ Hp.bs (h1 ++ (hx ++ h2))
      rw [bs_append, bs_append]
      exact List.mem_append_right _ (List.mem_append_left _ hx'))
    have hgn : g ∉ Hp.bs (h1 ++ (hx ++ h2)) := (List.nodup_cons.1 el.nd).1
    refine ⟨B.out.lo x hmem, fun e => hgn ?_, fun e => n1 (e ▸ hmem), fun e => n2 (e ▸ hmem)⟩
    rw [← e, bs_append, bs_append]
    exact List.mem_append_right _ (List.mem_append_left _ hx')
theorem BlkW.mid (B : BlkW w wr g1 g2 n fl at_ (o1 ++ b :: o2) v h) : ∃ g cap A p hb, v = .slice (some ⟨g, 0, none⟩) (o1.length + 1 + o2.length) cap ∧ o1.length + 1 + o2.length ≤ cap ∧ cap ≤ maxLen ∧ w.heap.size ≤ g ∧ wr.cell? ⟨g, o1.length * 3, none⟩ = some (.int .i64 b.first) ∧ wr.cell? ⟨g, o1.length * 3 + 1, none⟩ = some (.int .i64 b.last) ∧ wr.cell? ⟨g, o1.length * 3 + 2, none⟩ = some (.slice A b.next.length p) ∧ (∀ o, wr.frozen? ⟨g, o, none⟩ = false) ∧
    Lay (D.slice 2 1 (b.next.map (D.int .i64))) [.slice A b.next.length p] hb ∧ In wr hb ∧ hb.bs.Nodup ∧
    (∀ x : Int, ∃ h'', BlkW w (wr.setCell ⟨g, o1.length * 3 + 1, none⟩ (.int .i64 x)) g1 g2 n fl at_ (o1 ++ ⟨b.first, x, b.next⟩ :: o2) v h'') ∧
    (∀ (v' : Value) (w' : World) (h' : Hp) (y : List Int), Lay (D.slice 2 1 (y.map (D.int .i64))) [v'] h' → In w' h' → h'.bs.Nodup → (∀ b ∈ h'.bs, b ∈ hb.bs ∨ wr.heap.size ≤ b) → Upd (fun b => b ∈ hb.bs) wr w' →
      w'.cell? ⟨g, o1.length * 3 + 2, none⟩ = some (.slice A b.next.length p) ∧ w'.frozen? ⟨g, o1.length * 3 + 2, none⟩ = false ∧ ∃ h'', BlkW w (w'.setCell ⟨g, o1.length * 3 + 2, none⟩ v') g1 g2 n fl at_ (o1 ++ ⟨b.first, b.last, y⟩ :: o2) v h'') := by
  obtain ⟨g, cap, A, p, hb, a1, a2, a3, a4, a5, a6, a7, a8, a9, a10, a11, a12, a13, _⟩ := B.mid2
  exact ⟨g, cap, A, p, hb, a1, a2, a3, a4, a5, a6, a7, a8, a9, a10, a11, a12, a13⟩
end
theorem BlkW.same {w wr W : World} {g1 g2 n : Nat} {fl : List Bool} {at_ : List Int} {out : List GBlock} {v : Value} {h : Hp} (B : BlkW w wr g1 g2 n fl at_ out v h) (hb : Below wr.heap.size wr W) : BlkW w W g1 g2 n fl at_ out v h :=
  have hu := Upd.of_below hb (fun _ => False)
  ⟨B.fl.upd hu (fun x => x), B.at_.upd hu (fun x => x), B.out.below hb, B.n1, B.n2, B.lt, B.below.trans (hb.mono B.below.size)⟩
theorem infoBlk : (Try.prog.info? 92).map (fun i => (i.zero, i.size, i.bytes)) = some (some (.agg #[.int .i64 0, .int .i64 0, .slice none 0 0]), 3, 40) := by kernel_rfl
theorem lay_nil (e sz : Nat) : Lay (D.slice e sz []) [.slice none 0 0] [] := by
  rw [Lay]
  exact ⟨_, [], [], [], rfl, rfl, ⟨by simp, .inl ⟨rfl, rfl, rfl⟩⟩, by simp only [LayRow]; exact ⟨trivial, trivial⟩⟩
theorem blkOut_form (out : List GBlock) (i : Nat) (l : Bool) (h : l = true ∨ out ≠ []) : ∃ o b, (if l then out ++ [⟨i, 0, []⟩] else out) = o ++ [b] ∧ blkOut out i l = o ++ [⟨b.first, i, b.next⟩] := by
  cases l with
  | true => exact ⟨out, ⟨i, 0, []⟩, rfl, rfl⟩
  | false =>
    obtain ⟨o, b, rfl⟩ := snoc_of (h.resolve_left (by simp))
    exact ⟨o, b, rfl, setLast_snoc o b i⟩
end Go.Proofs.Ytedlhhhfifdnfaa
