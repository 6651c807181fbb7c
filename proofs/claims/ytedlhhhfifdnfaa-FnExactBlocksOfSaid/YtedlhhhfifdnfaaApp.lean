/- Words of this session's own: append onto a slice of one's own, whatever the source; at a plain list and at a drawn region's step. No program in sight. -/
import Derived.Test.YtedlhhhfifdnfaaOwn
import Derived.RegionTactic
import Derived.Test.YtedlhhhfifdnfaaRead
set_option linter.unusedVariables false
set_option linter.unusedSimpArgs false
namespace Go.Proofs.Ytedlhhhfifdnfaa
open Go.RowKit

/-- A slice value of m elements whose cells (size each) are c in the world W. -/
def Src (W : World) (size : Nat) (sv : Value) (m : Nat) (c : List Value) : Prop :=
  c.length = m * size ∧ ∃ A cap, sv = .slice A m cap ∧ (A = none → m = 0) ∧ ∀ ad, A = some ad → ∀ j u, c[j]? = some u → W.cell? (ad.add j) = some u
/-- What an append leaves. -/
structure App (W w' : World) (e size : Nat) (ds : List D) (h hc : Hp) (v' : Value) (h' : Hp) : Prop where
  lay : Lay (.slice e size ds) [v'] h'
  in_ : In w' h'
  nd : h'.bs.Nodup
  new : ∀ b ∈ h'.bs, b ∈ h.bs ∨ b ∈ hc.bs ∨ W.heap.size ≤ b
  upd : Upd (fun b => b ∈ h.bs) W w'
theorem Src.box {W : World} {bx e : Nat} {c : Array Value} {f : Nat × Nat} {size : Nat} (h : W.heap[bx]? = some (.cells c e f)) (hc : c.size = size) : Src W size (.slice (some ⟨bx, 0, none⟩) 1 1) 1 c.toList := by
  refine ⟨by simp [hc], _, _, rfl, (fun h => by cases h), fun ad ha j u hj => ?_⟩
  injection ha with ha
  subst ha
  rw [add_none, Nat.zero_add]
  simp only [World.cell?, h]
  simpa using hj
theorem Src.of_cells {W : World} {b o m cap size : Nat} {c : List Value} (hl : c.length = m * size) (h : ∀ j u, c[j]? = some u → W.cell? ⟨b, o + j, none⟩ = some u) : Src W size (.slice (some ⟨b, o, none⟩) m cap) m c :=
  ⟨hl, _, _, rfl, (fun h => by cases h), fun ad ha j u hj => by
    injection ha with ha
    subst ha
    rw [add_none]
    exact h j u hj⟩
theorem Src.nil_ (W : World) (size cap : Nat) : Src W size (.slice none 0 cap) 0 [] := ⟨by simp, _, _, rfl, fun _ => rfl, fun ad ha => by cases ha⟩
theorem Src.cell {W w' : World} {size m : Nat} {sv : Value} {c : List Value} (s : Src W size sv m c) (hc : ∀ a v, W.cell? a = some v → w'.cell? a = some v) : Src w' size sv m c := by
  obtain ⟨h1, A, cap, h2, h3, h4⟩ := s
  exact ⟨h1, A, cap, h2, h3, fun ad ha j u hj => hc _ _ (h4 ad ha j u hj)⟩
theorem flat_row {w : World} {sz b : Nat} {cf : D → List Value} : ∀ (ds : List D) (o : Nat), (∀ d ∈ ds, ∀ cs, Rd w d cs → cs = cf d) → RdRow w sz b o ds → ((ds.map cf).flatten).length = ds.length * sz ∧ ∀ j u, ((ds.map cf).flatten)[j]? = some u → w.cell? ⟨b, o + j, none⟩ = some u
  | [], o, _, _ => ⟨by simp, fun j u h => by simp at h⟩
  | d :: ds, o, hf, h => by
    simp only [RdRow] at h
    obtain ⟨⟨c, hc, hr, hcell⟩, h2⟩ := h
    obtain ⟨l1, l2⟩ := flat_row (cf := cf) ds (o + sz) (fun d hd => hf d (List.mem_cons_of_mem _ hd)) h2
    have := hf d List.mem_cons_self c hr
    subst this
    refine ⟨by rw [List.map_cons, List.flatten_cons, List.length_append, l1, hc, List.length_cons, Nat.succ_mul]; omega, fun j u hj => ?_⟩
    rw [List.map_cons, List.flatten_cons] at hj
    rcases Nat.lt_or_ge j (cf d).length with hlt | hge
    · rw [List.getElem?_append_left hlt] at hj
      exact hcell j u hj
    · rw [List.getElem?_append_right hge] at hj
      have := l2 _ u hj
      rwa [show o + sz + (j - (cf d).length) = o + j by omega] at this
/-- A slice that reads as flat data. -/
theorem Src.of_rd {w : World} {e sz : Nat} {cf : D → List Value} {ds : List D} {v : Value} (hf : ∀ d ∈ ds, ∀ cs, Rd w d cs → cs = cf d) (h : Rd w (.slice e sz ds) [v]) : Src w sz v ds.length ((ds.map cf).flatten) := by
  simp only [Rd] at h
  obtain ⟨A, cap, hv, hl, hm, hr⟩ := h
  obtain rfl := List.singleton_inj.1 hv
  rcases hr with h0 | ⟨b, o, rfl, hr⟩
  · have : ds = [] := List.eq_nil_of_length_eq_zero h0
    subst this
    exact ⟨by simp, A, cap, rfl, fun _ => rfl, fun ad _ j u hj => by simp at hj⟩
  · obtain ⟨l1, l2⟩ := flat_row (cf := cf) ds o hf hr
    exact Src.of_cells l1 l2
theorem LayRow.nil_of {sz : Nat} {cs : List Value} {h : Hp} (l : LayRow sz [] cs h) : cs = [] ∧ h = [] := by simpa only [LayRow] using l
theorem LayRow.one {sz : Nat} {d : D} {c : List Value} {h : Hp} (l : Lay d c h) (hc : c.length = sz) : LayRow sz [d] c h := by
  simp only [LayRow]
  exact ⟨c, [], h, [], by simp, by simp, hc, l, rfl, rfl⟩
section
variable {P : Program}
theorem run_append_lays (W : World) (t ty e : TypeId) (z : Value) (size bytes : Nat) (ht : P.underlying t = some (.slice e)) (hinfo : (P.info? e).map (fun i => (i.zero, i.size, i.bytes)) = some (some z, size, bytes)) (hz : z.cells.size = size) (hsz : 0 < size)
    (v : Value) (ds : List D) (h : Hp) (lay : Lay (.slice e size ds) [v] h) (hin : In W h) (hnd : h.bs.Nodup)
    (sv : Value) (ds2 : List D) (c : List Value) (hc : Hp) (hs : Src W size sv ds2.length c) (hd : LayRow size ds2 c hc) (h1 : ∀ u ∈ c, u.oneCell' = true) (hcin : In W hc) (hcnd : hc.bs.Nodup) (hdj : ∀ b ∈ hc.bs, b ∉ h.bs)
    (hlen : (ds.length + ds2.length) * bytes ≤ 140737488355328) (hlen' : ds.length + ds2.length ≤ maxLen) :
    ∃ v' w' h', (Builtin.append_ #[t, t] ty #[v, sv]).run P W = .ok v' w' ∧ App W w' e size (ds ++ ds2) h hc v' h' := by
  obtain ⟨i0, hi, hzz⟩ := Option.map_eq_some_iff.1 hinfo
  simp only [Prod.mk.injEq] at hzz
  obtain ⟨hz0, hz1, hz2⟩ := hzz
  obtain ⟨hcl, A, cap, rfl, hA, hcell⟩ := hs
  have lay0 := lay
  rw [Lay] at lay
  obtain ⟨v0, cells, h0, hr, hv, rfl, ⟨hcells, hrow⟩, hlr⟩ := lay
  obtain rfl := List.singleton_inj.1 hv
  obtain ⟨hin0, hinr⟩ := In.append.1 hin
  have hnd0 := hnd
  rw [bs_append] at hnd
  obtain ⟨_, hndr, hdr⟩ := List.nodup_append.1 hnd
  have hown : W.ownsRow 0 e size v ds.length cells := by
    refine ⟨hcells, ?_⟩
    rcases hrow with ⟨rfl, hn, _⟩ | ⟨g, cap, cur, rfl, hn, hm, hsz', htk, rfl⟩
    · exact .inl ⟨rfl, hn⟩
    · exact .inr ⟨g, cap, cur, rfl, Nat.zero_le _, hin0 (g, e, cur) List.mem_cons_self, hn, hm, hsz', htk⟩
  have hob : ∀ g, v.ownBlock = some g → g ∈ h0.bs := by
    intro g hg
    rcases hrow with ⟨rfl, _, _⟩ | ⟨g', cap, cur, rfl, _, _, _, _, rfl⟩
    · simp [Value.ownBlock] at hg
    · have : g' = g := by simpa [Value.ownBlock] using hg
      subst this
      exact List.mem_cons_self
  cases A with
  | none =>
    have hm := hA rfl
    have hd2 : ds2 = [] := List.eq_nil_of_length_eq_zero hm
    subst hd2
    obtain ⟨rfl, rfl⟩ := LayRow.nil_of hd
    refine ⟨v, W, h0 ++ hr, ?_, by rw [List.append_nil]; exact lay0, hin, hnd0, fun b hb => .inl hb, Upd.refl _ _⟩
    rcases hrow with ⟨rfl, hn, _⟩ | ⟨g, cap', cur, rfl, hn, _⟩
    · have : ds.length = 0 := hn
      simp [Builtin.append_, run_underlying ht, sizeOf, typeInfo, hi, Builtin.lenOf, Builtin.firstCells]
    · simp [Builtin.append_, run_underlying ht, sizeOf, typeInfo, hi, Builtin.lenOf, Builtin.firstCells, hn, storeCells]
  | some ad =>
    obtain ⟨v', w', hrun, hown', hg, _, hat⟩ := run_append_own_at (P := P) W 0 t ty e i0 z size bytes ht hi hz0 hz1 hz2 hz hsz v ds.length cells hown ad ds2.length cap c hcl (hcell ad rfl) h1 hlen' hlen (Nat.zero_le _)
    have hup : Upd (fun b => b ∈ (h0 ++ hr).bs) W w' := ⟨hg.os, hg.tape, hg.output, hg.size, fun k hk hn => hg.block k hk (fun e => hn (by rw [bs_append]; exact List.mem_append_left _ (hob k e.symm)))⟩
    obtain ⟨hcl', hown2⟩ := hown'
    rcases hown2 with ⟨rfl, hn0⟩ | ⟨g', cap', cur', rfl, _, hblk, hncap, hmax, hcs, htk⟩
    · have e1 : ds = [] := List.eq_nil_of_length_eq_zero (by omega)
      have e2 : ds2 = [] := List.eq_nil_of_length_eq_zero (by omega)
      subst e1 e2
      refine ⟨_, w', [], hrun, ?_, In.nil _, List.nodup_nil, (fun b hb => nomatch hb), hup⟩
      rw [List.nil_append, Lay]
      exact ⟨_, [], [], [], rfl, rfl, ⟨by simp, .inl ⟨rfl, rfl, rfl⟩⟩, by simp only [LayRow]; exact ⟨trivial, trivial⟩⟩
    · have hg' : g' ∈ h0.bs ∨ g' = W.heap.size := by
        rcases hat with hat | hat
        · exact .inl (hob g' (by rw [← hat]; rfl))
        · right
          simpa [Value.ownBlock] using hat
      have hrne : ∀ b ∈ hr.bs, b ≠ g' := fun b hb e => by
        rcases hg' with h | h
        · exact hdr g' h b hb e.symm
        · have := hinr.lt b hb; omega
      have hcne : ∀ b ∈ hc.bs, b ≠ g' := fun b hb e => by
        rcases hg' with h | h
        · exact hdj b hb (by rw [bs_append, e]; exact List.mem_append_left _ h)
        · have := hcin.lt b hb; omega
      have hkeep : ∀ p : Nat × Nat × Array Value, W.heap[p.1]? = some (.cells p.2.2 p.2.1 (0, 0)) → p.1 ∉ h0.bs → w'.heap[p.1]? = some (.cells p.2.2 p.2.1 (0, 0)) := fun p hp hn =>
        (hg.block p.1 (Array.getElem?_eq_some_iff.1 hp).1 (fun e => hn (hob _ e.symm))).trans hp
      have hdl : (ds ++ ds2).length = ds.length + ds2.length := by simp
      refine ⟨_, w', (g', e, cur') :: (hr ++ hc), hrun, ?_, ?_, ?_, ?_, hup⟩
      · rw [Lay]
        exact ⟨_, cells ++ c, [(g', e, cur')], hr ++ hc, rfl, rfl, ⟨by rw [hdl]; exact hcl', .inr ⟨g', cap', cur', by rw [hdl], by rw [hdl]; exact hncap, hmax, hcs, by rw [hdl]; exact htk, rfl⟩⟩, LayRow.join _ _ _ _ _ _ hlr hd⟩
      · refine In.cons.2 ⟨hblk, In.append.2 ⟨fun p hp => hkeep p (hinr p hp) (fun h => ?_), fun p hp => hkeep p (hcin p hp) (fun h => ?_)⟩⟩
        · exact hdr p.1 h p.1 (List.mem_map.2 ⟨p, hp, rfl⟩) rfl
        · exact hdj p.1 (List.mem_map.2 ⟨p, hp, rfl⟩) (by rw [bs_append]; exact List.mem_append_left _ h)
      · show (g' :: (hr ++ hc).bs).Nodup
        rw [bs_append]
        refine List.nodup_cons.2 ⟨fun h => ?_, List.nodup_append.2 ⟨hndr, hcnd, fun x hx y hy e => hdj y hy (by rw [bs_append]; exact List.mem_append_right _ (e ▸ hx))⟩⟩
        rcases List.mem_append.1 h with h | h
        · exact hrne g' h rfl
        · exact hcne g' h rfl
      · intro b hb
        rcases List.mem_cons.1 (show b ∈ g' :: (hr ++ hc).bs from hb) with rfl | hb
        · rcases hg' with h | h
          · exact .inl (by rw [bs_append]; exact List.mem_append_left _ h)
          · exact .inr (.inr (by omega))
        · rw [bs_append] at hb
          rcases List.mem_append.1 hb with h | h
          · exact .inl (by rw [bs_append]; exact List.mem_append_right _ h)
          · exact .inr (.inl h)
section
variable {ops : Array Oper} {rest : List Oper} {o : Oper} {a : Act} {Q : Exit → Act → World → Prop} {K0 : Act → World → Prop} {E : Prop}
theorem wp_append_lays {W : World} (s x : Operand) (t e : TypeId) (ho : o.op = .call { callee := .builtin .append, args := #[s, x], argTypes := #[t, t] })
    (z : Value) (size bytes : Nat) (ht : P.underlying t = some (.slice e)) (hinfo : (P.info? e).map (fun i => (i.zero, i.size, i.bytes)) = some (some z, size, bytes)) (hz : z.cells.size = size) (hsz : 0 < size)
    (v : Value) (ds : List D) (h : Hp) (hse : a.eval s = v) (lay : Lay (.slice e size ds) [v] h) (hin : In W h) (hnd : h.bs.Nodup)
    (sv : Value) (ds2 : List D) (c : List Value) (hc : Hp) (hxe : a.eval x = sv) (hs : Src W size sv ds2.length c) (hd : LayRow size ds2 c hc) (h1 : ∀ u ∈ c, u.oneCell' = true) (hcin : In W hc) (hcnd : hc.bs.Nodup) (hdj : ∀ b ∈ hc.bs, b ∉ h.bs)
    (hlen : (ds.length + ds2.length) * bytes ≤ 140737488355328) (hlen' : ds.length + ds2.length ≤ maxLen)
    (K : ∀ v' w' h', App W w' e size (ds ++ ds2) h hc v' h' → K0 (a.put o.dst v') w') : o.wp P a W K0 Q := by
  obtain ⟨v', w', h', hrun, hA⟩ := run_append_lays (P := P) W t o.type e z size bytes ht hinfo hz hsz v ds h lay hin hnd sv ds2 c hc hs hd h1 hcin hcnd hdj hlen hlen'
  unfold Oper.wp execOp
  simp only [ho, resolve, invoke, builtin, Sem.run_bind, Sem.run_pure, Result.andThen_ok, List.map_toArray, List.map_cons, List.map_nil, hse, hxe, hrun]
  exact K v' w' h' hA
theorem wpList_append_lays {W : World} (hgd : o.guard = none) (s x : Operand) (t e : TypeId) (ho : o.op = .call { callee := .builtin .append, args := #[s, x], argTypes := #[t, t] })
    (z : Value) (size bytes : Nat) (ht : P.underlying t = some (.slice e)) (hinfo : (P.info? e).map (fun i => (i.zero, i.size, i.bytes)) = some (some z, size, bytes)) (hz : z.cells.size = size) (hsz : 0 < size)
    (v : Value) (ds : List D) (h : Hp) (hse : a.eval s = v) (lay : Lay (.slice e size ds) [v] h) (hin : In W h) (hnd : h.bs.Nodup)
    (sv : Value) (ds2 : List D) (c : List Value) (hc : Hp) (hxe : a.eval x = sv) (hs : Src W size sv ds2.length c) (hd : LayRow size ds2 c hc) (h1 : ∀ u ∈ c, u.oneCell' = true) (hcin : In W hc) (hcnd : hc.bs.Nodup) (hdj : ∀ b ∈ hc.bs, b ∉ h.bs)
    (hlen : (ds.length + ds2.length) * bytes ≤ 140737488355328) (hlen' : ds.length + ds2.length ≤ maxLen)
    (K : ∀ v' w' h', App W w' e size (ds ++ ds2) h hc v' h' → wpList P ops Q rest (a.put o.dst v') w') : wpList P ops Q (o :: rest) a W :=
  wpList_plain hgd fun _ hK => wp_append_lays s x t e ho z size bytes ht hinfo hz hsz v ds h hse lay hin hnd sv ds2 c hc hxe hs hd h1 hcin hcnd hdj hlen hlen' fun v' w' h' hA => hK _ _ (K v' w' h' hA)
theorem step_append_lays {W : World} (hgd : o.guard = none) (s x : Operand) (t e : TypeId) (ho : o.op = .call { callee := .builtin .append, args := #[s, x], argTypes := #[t, t] })
    (z : Value) (size bytes : Nat) (ht : P.underlying t = some (.slice e)) (hinfo : (P.info? e).map (fun i => (i.zero, i.size, i.bytes)) = some (some z, size, bytes)) (hz : z.cells.size = size) (hsz : 0 < size)
    (v : Value) (ds : List D) (h : Hp) (hse : a.eval s = v) (lay : Lay (.slice e size ds) [v] h) (hin : In W h) (hnd : h.bs.Nodup)
    (sv : Value) (ds2 : List D) (c : List Value) (hc : Hp) (hxe : a.eval x = sv) (hs : Src W size sv ds2.length c) (hd : LayRow size ds2 c hc) (h1 : ∀ u ∈ c, u.oneCell' = true) (hcin : In W hc) (hcnd : hc.bs.Nodup) (hdj : ∀ b ∈ hc.bs, b ∉ h.bs)
    (hlen : (ds.length + ds2.length) * bytes ≤ 140737488355328) (hlen' : ds.length + ds2.length ≤ maxLen)
    (K : ∀ v' w' h', App W w' e size (ds ++ ds2) h hc v' h' → K0 (a.put o.dst v') w') :
    if Region.wanted o (yielded ops a.tmps) = true then Oper.wp P o a W K0 Q else E := by
  have hw : Region.wanted o (yielded ops a.tmps) = true := by simp [Region.wanted, hgd]
  rw [if_pos hw]
  exact wp_append_lays s x t e ho z size bytes ht hinfo hz hsz v ds h hse lay hin hnd sv ds2 c hc hxe hs hd h1 hcin hcnd hdj hlen hlen' K
end
end
end Go.Proofs.Ytedlhhhfifdnfaa
