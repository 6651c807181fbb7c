/- Words of this session's own: append onto a slice of one's own; an element of one in focus. No program in sight. -/
import Derived.Test.YtedlhhhfifdnfaaMark
import Derived.Maps.AppendAt
set_option linter.unusedVariables false
set_option linter.unusedSimpArgs false
namespace Go.Proofs.Ytedlhhhfifdnfaa
open Go.RowKit

theorem LayRow.split {sz : Nat} : ∀ (a b : List D) (cs : List Value) (h : Hp), LayRow sz (a ++ b) cs h → ∃ c1 c2 h1 h2, cs = c1 ++ c2 ∧ h = h1 ++ h2 ∧ LayRow sz a c1 h1 ∧ LayRow sz b c2 h2
  | [], b, cs, h, l => ⟨[], cs, [], h, rfl, rfl, by simp only [LayRow]; exact ⟨trivial, trivial⟩, l⟩
  | x :: a, b, cs, h, l => by
    simp only [List.cons_append, LayRow] at l
    obtain ⟨c0, c1, h0, h1, rfl, rfl, hs, hx, r⟩ := l
    obtain ⟨c2, c3, h2, h3, rfl, rfl, r1, r2⟩ := LayRow.split a b c1 h1 r
    exact ⟨c0 ++ c2, c3, h0 ++ h2, h3, by simp, by simp, by simp only [LayRow]; exact ⟨c0, c2, h0, h2, rfl, rfl, hs, hx, r1⟩, r2⟩
theorem LayRow.join {sz : Nat} : ∀ (a b : List D) (c1 c2 : List Value) (h1 h2 : Hp), LayRow sz a c1 h1 → LayRow sz b c2 h2 → LayRow sz (a ++ b) (c1 ++ c2) (h1 ++ h2)
  | [], b, c1, c2, h1, h2, l, r => by
    simp only [LayRow] at l
    obtain ⟨rfl, rfl⟩ := l
    exact r
  | x :: a, b, c1, c2, h1, h2, l, r => by
    simp only [LayRow] at l
    obtain ⟨c0, c3, h0, h3, rfl, rfl, hs, hx, q⟩ := l
    simp only [List.cons_append, LayRow]
    exact ⟨c0, c3 ++ c2, h0, h3 ++ h2, by simp, by simp, hs, hx, LayRow.join a b c3 c2 h3 h2 q r⟩
section
variable {P : Program} {ops : Array Oper} {rest : List Oper} {o : Oper} {a : Act} {Q : Exit → Act → World → Prop}
/-- append(v, x): v a slice of one's own, x's cells c (over the pieces hc) in the variadic's box. -/
theorem wpList_append_lay {W : World} (hgd : o.guard = none) (s x : Operand) (t e : TypeId) (ho : o.op = .call { callee := .builtin .append, args := #[s, x], argTypes := #[t, t] })
    (z : Value) (size bytes : Nat) (ht : P.underlying t = some (.slice e)) (hinfo : (P.info? e).map (fun i => (i.zero, i.size, i.bytes)) = some (some z, size, bytes)) (hz : z.cells.size = size) (hsz : 0 < size)
    (v : Value) (ds : List D) (h : Hp) (hs : a.eval s = v) (hx : a.eval x = .slice (some ⟨W.heap.size, 0, none⟩) 1 1) (lay : Lay (.slice e size ds) [v] h) (hin : In W h) (hnd : h.bs.Nodup)
    (d : D) (c : List Value) (hc : Hp) (hd : Lay d c hc) (hcl : c.length = size) (h1 : ∀ u ∈ c, u.oneCell' = true) (hcin : In W hc) (hcnd : hc.bs.Nodup) (hdj : ∀ b ∈ hc.bs, b ∉ h.bs) (hlen : (ds.length + 1) * bytes ≤ 140737488355328) (hlen' : ds.length + 1 ≤ maxLen)
    (K : ∀ v' w' h', Lay (.slice e size (ds ++ [d])) [v'] h' → In w' h' → h'.bs.Nodup → (∀ b ∈ h'.bs, b ∈ h.bs ∨ b ∈ hc.bs ∨ W.heap.size ≤ b) → Upd (fun b => b ∈ h.bs) W w' → wpList P ops Q rest (a.put o.dst v') w') :
    wpList P ops Q (o :: rest) a (W.alloc (.cells c.toArray e)) := by
  obtain ⟨i0, hi, hzz⟩ := Option.map_eq_some_iff.1 hinfo
  simp only [Prod.mk.injEq] at hzz
  obtain ⟨hz0, hz1, hz2⟩ := hzz
  rw [Lay] at lay
  obtain ⟨v0, cells, h0, hr, hv, rfl, ⟨hcells, hrow⟩, hlr⟩ := lay
  obtain rfl := List.singleton_inj.1 hv
  obtain ⟨hin0, hinr⟩ := In.append.1 hin
  rw [bs_append] at hnd
  obtain ⟨_, hndr, hdr⟩ := List.nodup_append.1 hnd
  have hown : (W.alloc (.cells c.toArray e)).ownsRow 0 e size v ds.length cells := by
    refine ⟨hcells, ?_⟩
    rcases hrow with ⟨rfl, hn, _⟩ | ⟨g, cap, cur, rfl, hn, hm, hsz', htk, rfl⟩
    · exact .inl ⟨rfl, hn⟩
    · have hb := hin0 (g, e, cur) List.mem_cons_self
      exact .inr ⟨g, cap, cur, rfl, Nat.zero_le _, (Below.heap_alloc W _ g (Array.getElem?_eq_some_iff.1 hb).1).trans hb, hn, hm, hsz', htk⟩
  have hob : ∀ g, v.ownBlock = some g → g ∈ h0.bs := by
    intro g hg
    rcases hrow with ⟨rfl, _, _⟩ | ⟨g', cap, cur, rfl, _, _, _, _, rfl⟩
    · simp [Value.ownBlock] at hg
    · have : g' = g := by simpa [Value.ownBlock] using hg
      subst this
      exact List.mem_cons_self
  refine wpList_append_own_at (W.alloc (.cells c.toArray e)) hgd s x t ho 0 e i0 z size bytes ht hi hz0 hz1 hz2 hz hsz v ds.length cells hs hown ⟨W.heap.size, 0, none⟩ 1 1 c hx (by rw [hcl, Nat.one_mul]) ?_ h1 hlen' hlen (Nat.zero_le _) ?_
  · intro j u hj
    have hadd : (⟨W.heap.size, 0, none⟩ : Addr).add j = ⟨W.heap.size, j, none⟩ := by unfold Addr.add; split <;> simp_all
    rw [hadd, cell_of_blk (heap_alloc_new W _)]
    simpa using hj
  · intro v' w' hown' hg _ hat
    have hsz2 : (W.alloc (.cells c.toArray e)).heap.size = W.heap.size + 1 := by simp
    have hup : Upd (fun b => b ∈ (h0 ++ hr).bs) W w' := by
      refine ⟨hg.os, hg.tape, hg.output, by have := hg.size; omega, fun k hk hn => ?_⟩
      refine (hg.block k (by omega) (fun e => ?_)).trans (Below.heap_alloc W _ k hk)
      exact hn (by rw [bs_append]; exact List.mem_append_left _ (hob k e.symm))
    obtain ⟨hcl', hown2⟩ := hown'
    rcases hown2 with ⟨_, hn0⟩ | ⟨g', cap', cur', rfl, _, hblk, hncap, hmax, hcs, htk⟩
    · omega
    · have hg' : g' ∈ h0.bs ∨ g' = W.heap.size + 1 := by
        rcases hat with hat | hat
        · exact .inl (hob g' (by rw [← hat]; rfl))
        · right
          rw [hsz2] at hat
          simpa [Value.ownBlock] using hat
      have hrne : ∀ b ∈ hr.bs, b ≠ g' := fun b hb e => by
        rcases hg' with h | h
        · exact hdr g' h b hb e.symm
        · have := hinr.lt b hb; omega
      have hcne : ∀ b ∈ hc.bs, b ≠ g' := fun b hb e => by
        rcases hg' with h | h
        · exact hdj b hb (by rw [bs_append, e]; exact List.mem_append_left _ h)
        · have := hcin.lt b hb; omega
      have hkeep : ∀ p : Nat × Nat × Array Value, W.heap[p.1]? = some (.cells p.2.2 p.2.1 (0, 0)) → p.1 ∉ h0.bs → w'.heap[p.1]? = some (.cells p.2.2 p.2.1 (0, 0)) := fun p hp hn =>
        ((hg.block p.1 (by have := (Array.getElem?_eq_some_iff.1 hp).1; omega) (fun e => hn (hob _ e.symm))).trans (Below.heap_alloc W _ p.1 (Array.getElem?_eq_some_iff.1 hp).1)).trans hp
      have hdl : (ds ++ [d]).length = ds.length + 1 := by simp
      refine K _ w' ((g', e, cur') :: (hr ++ hc)) ?_ ?_ ?_ ?_ hup
      · rw [Lay]
        refine ⟨_, cells ++ c, [(g', e, cur')], hr ++ hc, rfl, rfl, ⟨by rw [hdl]; exact hcl', .inr ⟨g', cap', cur', by rw [hdl], by rw [hdl]; exact hncap, hmax, hcs, by rw [hdl]; exact htk, rfl⟩⟩, LayRow.snoc hcl hd ds cells hr hlr⟩
      · refine In.cons.2 ⟨hblk, In.append.2 ⟨fun p hp => hkeep p (hinr p hp) (fun h => ?_), fun p hp => hkeep p (hcin p hp) (fun h => ?_)⟩⟩
        · exact hdr p.1 h p.1 (List.mem_map.2 ⟨p, hp, rfl⟩) rfl
        · exact hdj p.1 (List.mem_map.2 ⟨p, hp, rfl⟩) (by rw [bs_append]; exact List.mem_append_left _ h)
      · show (g' :: (hr ++ hc).bs).Nodup
        rw [bs_append]
        refine List.nodup_cons.2 ⟨fun h => ?_, List.nodup_append.2 ⟨hndr, hcnd, fun x hx y hy e => hdj y hy (by rw [bs_append]; exact List.mem_append_right _ (e ▸ hx))⟩⟩
        rcases List.mem_append.1 h with h | h
        · exact hrne g' h rfl
        · exact hcne g' h rfl
      · intro b hb
        rcases List.mem_cons.1 (show b ∈ g' :: (hr ++ hc).bs from hb) with rfl | hb
        · rcases hg' with h | h
          · exact .inl (by rw [bs_append]; exact List.mem_append_left _ h)
          · exact .inr (.inr (by omega))
        · rw [bs_append] at hb
          rcases List.mem_append.1 hb with h | h
          · exact .inl (by rw [bs_append]; exact List.mem_append_right _ h)
          · exact .inr (.inl h)
end
section
variable {w w1 : World} {B g e sz n cap : Nat} {ds : List D} {v : Value} {h h1 hx h2 : Hp} {cx : List Value} {x : D}
/-- Element j of a slice of one's own, in focus. -/
theorem Own.focus {j : Nat} (o : Own w B (.slice e sz ds) [v] h) (hj : j < ds.length) : ∃ g cap cur h1 hx h2 cx, v = .slice (some ⟨g, 0, none⟩) ds.length cap ∧ cap ≤ maxLen ∧ B ≤ g ∧ (∀ b ∈ Hp.bs (h1 ++ (hx ++ h2)), B ≤ b) ∧ h = (g, e, cur) :: (h1 ++ (hx ++ h2)) ∧ Lay ds[j] cx hx ∧
    MkEl w w g e sz ds.length cap (h1 ++ (hx ++ h2)) (ds.take j) (ds.drop (j + 1)) h1 hx h2 cx := by
  have l := o.lay
  rw [Lay] at l
  obtain ⟨v0, cells, h0, hr, hv, rfl, ⟨hcells, hrow⟩, hlr⟩ := l
  obtain rfl := List.singleton_inj.1 hv
  rcases hrow with ⟨_, hn, _⟩ | ⟨g, cap, cur, rfl, hn, hm, hs, ht, rfl⟩
  · omega
  · have hsp : ds = ds.take j ++ (ds[j] :: ds.drop (j + 1)) := by rw [← List.drop_eq_getElem_cons hj, List.take_append_drop]
    rw [hsp] at hlr
    obtain ⟨c1, c2, h1, h2', rfl, rfl, r1, r2⟩ := LayRow.split _ _ _ _ hlr
    simp only [LayRow] at r2
    obtain ⟨cx, c3, hx, h2, rfl, rfl, hl, lx, r3⟩ := r2
    obtain ⟨hb, hin⟩ := In.cons.1 (show In w ((g, e, cur) :: (h1 ++ (hx ++ h2))) from o.in_)
    obtain ⟨i1, i2⟩ := In.append.1 hin
    obtain ⟨ix, i3⟩ := In.append.1 i2
    refine ⟨g, cap, cur, h1, hx, h2, cx, rfl, hm, o.lo g List.mem_cons_self, fun b hb => o.lo b (List.mem_cons_of_mem _ hb), rfl, lx, ⟨cur, c1, c3, hb, hs, ht, r1, r3⟩, hl, by rw [List.length_take, List.length_drop]; omega, hn, i1, ix, i3, by rw [bs_append, bs_append], o.nd, Upd.refl _ _⟩
/-- Out of focus: the element is x then. -/
theorem MkEl.own {w0 : World} {H : Hp} {ds1 ds2 : List D} (m : MkEl w0 w g e sz n cap H ds1 ds2 h1 hx h2 cx) (l : Lay x cx hx) (hm : cap ≤ maxLen) (hg : B ≤ g) (hlo : ∀ b ∈ H.bs, B ≤ b) : ∃ h', Own w B (.slice e sz (ds1 ++ x :: ds2)) [.slice (some ⟨g, 0, none⟩) n cap] h' ∧ h'.bs = g :: H.bs := by
  obtain ⟨cur, c1, c2, hb, hs, ht, r1, r2⟩ := m.blk
  have hnum : (ds1 ++ x :: ds2).length = n := by rw [List.length_append, List.length_cons]; have := m.num; omega
  have hr : LayRow sz (ds1 ++ x :: ds2) (c1 ++ (cx ++ c2)) (h1 ++ (hx ++ h2)) := LayRow.join _ _ _ _ _ _ r1 (by simp only [LayRow]; exact ⟨cx, c2, hx, h2, rfl, rfl, m.len, l, r2⟩)
  have hbs : Hp.bs ((g, e, cur) :: (h1 ++ (hx ++ h2))) = g :: H.bs := by
    show g :: (h1 ++ (hx ++ h2)).bs = _
    rw [bs_append, bs_append, m.bs]
  refine ⟨(g, e, cur) :: (h1 ++ (hx ++ h2)), ⟨?_, In.cons.2 ⟨hb, In.append.2 ⟨m.in1, In.append.2 ⟨m.inx, m.in2⟩⟩⟩, by rw [hbs]; exact m.nd, fun b hb' => ?_⟩, hbs⟩
  · rw [Lay]
    exact ⟨_, _, [(g, e, cur)], _, rfl, rfl, ⟨LayRow.len _ _ _ hr, .inr ⟨g, cap, cur, by rw [hnum], by rw [hnum]; exact m.cap_, hm, hs, by rw [hnum]; exact ht, rfl⟩⟩, hr⟩
  · rw [hbs] at hb'
    rcases List.mem_cons.1 hb' with rfl | hb'
    · exact hg
    · exact hlo b hb'
/-- A part of what the element in focus leads to has grown (an append): all begins anew from here. -/
theorem MkEl.grow {w0 : World} {H ha hb hc hb' : Hp} {ds1 ds2 : List D} (m : MkEl w0 w g e sz n cap H ds1 ds2 h1 (ha ++ (hb ++ hc)) h2 cx) (hu : Upd (fun b => b ∈ hb.bs) w w1) (hi : In w1 hb') (hnd' : hb'.bs.Nodup) (hnew : ∀ b ∈ hb'.bs, b ∈ hb.bs ∨ w.heap.size ≤ b) :
    MkEl w1 w1 g e sz n cap (h1 ++ ((ha ++ (hb' ++ hc)) ++ h2)) ds1 ds2 h1 (ha ++ (hb' ++ hc)) h2 cx := by
  obtain ⟨cur, c1, c2, hbk, hs, ht, l1, l2⟩ := m.blk
  obtain ⟨n1, n2, n3, n4, n5, n6⟩ := nd_mem m.bs m.nd
  have hx2 : (ha ++ (hb ++ hc)).bs = ha.bs ++ (hb.bs ++ hc.bs) := by rw [bs_append, bs_append]
  have hnda := m.nd
  rw [← m.bs] at hnda
  obtain ⟨hg0, hnd0⟩ := List.nodup_cons.1 hnda
  obtain ⟨nd1, ndx2, _⟩ := List.nodup_append.1 hnd0
  obtain ⟨ndx, nd2, _⟩ := List.nodup_append.1 ndx2
  rw [hx2] at ndx n1 n2 n5
  obtain ⟨nda, ndbc, hd1⟩ := List.nodup_append.1 ndx
  obtain ⟨_, ndc, hd2⟩ := List.nodup_append.1 ndbc
  obtain ⟨ia, ibc⟩ := In.append.1 m.inx
  obtain ⟨_, ic⟩ := In.append.1 ibc
  have hgl : g < w.heap.size := (Array.getElem?_eq_some_iff.1 hbk).1
  have nb : ∀ b, b ∈ hb'.bs → (b ∈ h1.bs → False) ∧ (b ∈ ha.bs → False) ∧ (b ∈ hc.bs → False) ∧ (b ∈ h2.bs → False) ∧ b ≠ g := by
    intro b hbm
    rcases hnew b hbm with h | h
    · exact ⟨fun k => n1 b k (List.mem_append_right _ (List.mem_append_left _ h)), fun k => hd1 b k b (List.mem_append_left _ h) rfl, fun k => hd2 b h b k rfl, fun k => n2 b (List.mem_append_right _ (List.mem_append_left _ h)) k, fun k => n5 (k ▸ List.mem_append_right _ (List.mem_append_left _ h))⟩
    · exact ⟨fun k => by have := m.in1.lt b k; omega, fun k => by have := ia.lt b k; omega, fun k => by have := ic.lt b k; omega, fun k => by have := m.in2.lt b k; omega, fun k => by omega⟩
  refine ⟨⟨cur, c1, c2, (hu.block g hgl (fun h => n5 (List.mem_append_right _ (List.mem_append_left _ h)))).trans hbk, hs, ht, l1, l2⟩, m.len, m.num, m.cap_, m.in1.upd hu (fun b hb1 hb2 => n1 b hb1 (List.mem_append_right _ (List.mem_append_left _ hb2))), In.append.2 ⟨ia.upd hu (fun b hb1 hb2 => hd1 b hb1 b (List.mem_append_left _ hb2) rfl), In.append.2 ⟨hi, ic.upd hu (fun b hb1 hb2 => hd2 b hb2 b hb1 rfl)⟩⟩, m.in2.upd hu (fun b hb1 hb2 => n2 b (List.mem_append_right _ (List.mem_append_left _ hb2)) hb1), by simp only [bs_append], ?_, Upd.refl _ _⟩
  rw [bs_append, bs_append, bs_append, bs_append]
  refine List.nodup_cons.2 ⟨fun hm => ?_, List.nodup_append.2 ⟨nd1, List.nodup_append.2 ⟨List.nodup_append.2 ⟨nda, List.nodup_append.2 ⟨hnd', ndc, fun x hx y hy e => (nb x hx).2.2.1 (e ▸ hy)⟩, fun x hx y hy e => ?_⟩, nd2, fun x hx y hy e => ?_⟩, fun x hx y hy e => ?_⟩⟩
  · rcases List.mem_append.1 hm with h | h
    · exact n4 h
    · rcases List.mem_append.1 h with h | h
      · rcases List.mem_append.1 h with h | h
        · exact n5 (List.mem_append_left _ h)
        · rcases List.mem_append.1 h with h | h
          · exact (nb g h).2.2.2.2 rfl
          · exact n5 (List.mem_append_right _ (List.mem_append_right _ h))
      · exact n6 h
  · subst e
    rcases List.mem_append.1 hy with h | h
    · exact (nb x h).2.1 hx
    · exact hd1 x hx x (List.mem_append_right _ h) rfl
  · subst e
    rcases List.mem_append.1 hx with h | h
    · exact n2 x (List.mem_append_left _ h) hy
    · rcases List.mem_append.1 h with h | h
      · exact (nb x h).2.2.2.1 hy
      · exact n2 x (List.mem_append_right _ (List.mem_append_right _ h)) hy
  · subst e
    rcases List.mem_append.1 hy with h | h
    · rcases List.mem_append.1 h with h | h
      · exact n1 x hx (List.mem_append_left _ h)
      · rcases List.mem_append.1 h with h | h
        · exact (nb x h).1 hx
        · exact n1 x hx (List.mem_append_right _ (List.mem_append_right _ h))
    · exact n3 x hx h
end
end Go.Proofs.Ytedlhhhfifdnfaa
