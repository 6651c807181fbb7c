/- Words of this session's own: what a row's argument reads as, in Rd's words. No program in sight. -/
import Derived.Test.YtedlhhhfifdnfaaBase
import Derived.ProofKit
set_option linter.unusedVariables false
set_option linter.unusedSimpArgs false
namespace Go.Proofs.Ytedlhhhfifdnfaa
open Go.RowKit

theorem RdRow.mk_ {w : World} {sz b : Nat} : ∀ (xs : List D) (o : Nat), (∀ (i : Nat) (hi : i < xs.length), ∃ c, c.length = sz ∧ Rd w xs[i] c ∧ ∀ j v, c[j]? = some v → w.cell? ⟨b, o + i * sz + j, none⟩ = some v) → RdRow w sz b o xs
  | [], _, _ => by simp only [RdRow]
  | x :: xs, o, h => by
    simp only [RdRow]
    refine ⟨?_, RdRow.mk_ xs (o + sz) fun i hi => ?_⟩
    · obtain ⟨c, h0, h1, h2⟩ := h 0 (by simp)
      exact ⟨c, h0, h1, fun j v hj => by have := h2 j v hj; rwa [Nat.zero_mul, Nat.add_zero] at this⟩
    · obtain ⟨c, h0, h1, h2⟩ := h (i + 1) (by simpa using hi)
      refine ⟨c, h0, by simpa using h1, fun j v hj => ?_⟩
      have := h2 j v hj
      rwa [show o + (i + 1) * sz + j = o + sz + i * sz + j by rw [Nat.succ_mul]; omega] at this
theorem spot_none {w : World} {a : Addr} {v : Value} (h : w.cell? a = some v) : a = ⟨a.block, a.off, none⟩ := by
  cases a with
  | mk b o s =>
    cases s with
    | none => rfl
    | some k =>
      simp only [World.cell?] at h
      split at h
      · simp at h
      · simp at h
theorem add_none (b o n : Nat) : (⟨b, o, none⟩ : Addr).add n = ⟨b, o + n, none⟩ := by
  unfold Addr.add
  split
  · rename_i h; subst h; rfl
  · rfl
/-- A word of 32 bits. -/
def W32 (n : Int) : Prop := 0 ≤ n ∧ n < 4294967296
theorem w32_of {n : Int} (h : (Lit.int .u32 n).wf = true) : W32 n := by
  simp [Lit.wf, IntKind.min, IntKind.max, IntKind.bits, IntKind.signed] at h
  unfold W32
  omega
section
variable {H : Type} {enc : TypeId × Value → H} {P : Program} {w : World} {base : Nat} {spare : Nat → Bool} {held : Bool}
/-- A slice whose elements are read is read. -/
theorem trod_rows {t e sz : Nat} (ht : P.underlying t = some (.slice e)) (hc : P.cellsOf e = sz) (hsz : 0 < sz) {α : Type} (en : α → D) (e0 fuel : Nat)
    (ih : ∀ n cs x, n < fuel → DataW.trod enc P w base spare held n e cs = some x → ∃ a : α, Rd w (en a) cs) {cs : List Value} {x : DataW H × List MemPlace}
    (h : DataW.trod enc P w base spare held fuel t cs = some x) : ∃ xs : List α, Rd w (.slice e0 sz (xs.map en)) cs := by
  rcases DataW.trod_slice ht h with ⟨rfl, _⟩ | ⟨a, len, cap, elems, rest, n, hf, rfl, _, hb, hl, hm, hlen, hel, _⟩
  · exact ⟨[], by simp only [Rd]; exact ⟨none, 0, rfl, Nat.zero_le _, by simp [maxLen], .inl rfl⟩⟩
  · have hel' : ∀ i : Fin len, ∃ (c : List Value) (y : α), w.cells? base (a.add (i.1 * sz)) sz = some c ∧ Rd w (en y) c := by
      intro i
      have h1 := hel i.1 i.2
      rw [hc, List.getElem?_eq_getElem (by omega)] at h1
      obtain ⟨c, hc1, hc2⟩ := Option.bind_eq_some_iff.1 h1
      obtain ⟨y, hy⟩ := ih n c _ (by omega) hc2
      exact ⟨c, y, hc1, hy⟩
    classical
    obtain ⟨C, hC⟩ := Classical.axiomOfChoice hel'
    obtain ⟨Y, hY⟩ := Classical.axiomOfChoice hC
    refine ⟨List.ofFn Y, ?_⟩
    simp only [Rd]
    refine ⟨some a, cap, by simp, by simpa using hl, hm, ?_⟩
    by_cases h0 : len = 0
    · exact .inl (by simp [h0])
    · right
      obtain ⟨hd0, _⟩ := hY ⟨0, by omega⟩
      obtain ⟨_, hl0, hget0⟩ := World.cells?_some hd0
      have ha : a = ⟨a.block, a.off, none⟩ := by
        have h2 := hget0 0 hsz
        have h3 : (C ⟨0, by omega⟩)[0]? = some ((C ⟨0, by omega⟩)[0]'(by omega)) := List.getElem?_eq_getElem (by omega)
        rw [h3] at h2
        have h4 : (a.add (0 * sz)).add 0 = a := by simp [Addr.add]
        rw [h4] at h2
        exact spot_none h2
      refine ⟨a.block, a.off, by rw [← ha], RdRow.mk_ _ _ fun i hi => ?_⟩
      have hi' : i < len := by simpa using hi
      obtain ⟨hci, hri⟩ := hY ⟨i, hi'⟩
      obtain ⟨_, hli, hgi⟩ := World.cells?_some hci
      refine ⟨C ⟨i, hi'⟩, hli, by simpa using hri, fun j v hj => ?_⟩
      have hjl : j < sz := by have := (List.getElem?_eq_some_iff.1 hj).1; omega
      have h2 := hgi j hjl
      rw [hj, ha, add_none, add_none] at h2
      exact h2
theorem trod_int_d {t : Nat} {k : IntKind} (ht : P.underlying t = some (.int k)) {fuel : Nat} {cs : List Value} {x : DataW H × List MemPlace} (h : DataW.trod enc P w base spare held fuel t cs = some x) : ∃ n : Int, cs = [.int k n] ∧ (Lit.int k n).wf = true := by
  obtain ⟨n, h1, _, h2⟩ := DataW.trod_int ht h
  exact ⟨n, h1, h2⟩
theorem trod_bool_d {t : Nat} (ht : P.underlying t = some .bool) {fuel : Nat} {cs : List Value} {x : DataW H × List MemPlace} (h : DataW.trod enc P w base spare held fuel t cs = some x) : ∃ b : Bool, cs = [.bool b] := by
  obtain ⟨b, h1, _⟩ := DataW.trod_bool ht h
  exact ⟨b, h1⟩
/-- A struct's fields, each with what is left of the fuel. -/
theorem trod_fields {t sz : Nat} {fs : Array Field} (ht : P.underlying t = some (.struct fs)) (hc : P.cellsOf t = sz) {fuel : Nat} {cs : List Value} {x : DataW H × List MemPlace} (h : DataW.trod enc P w base spare held fuel t cs = some x) :
    ∃ n, n < fuel ∧ cs.length = sz ∧ ∀ (i : Nat) (f : Field), fs[i]? = some f → ∃ y, DataW.trod enc P w base spare held n f.type ((cs.drop f.offset).take (P.cellsOf f.type)) = some y := by
  obtain ⟨xs, n, hf, _, hl, hlen, hget⟩ := DataW.trod_struct ht h
  refine ⟨n, by omega, by rw [hl, hc], fun i f hi => ?_⟩
  rw [hget i f hi]
  have : i < xs.length := by rw [hlen]; exact (Array.getElem?_eq_some_iff.1 hi).1
  exact ⟨xs[i], List.getElem?_eq_getElem this⟩
end
end Go.Proofs.Ytedlhhhfifdnfaa
