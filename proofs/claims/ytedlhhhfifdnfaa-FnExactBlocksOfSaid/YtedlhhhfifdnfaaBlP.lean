/- The plain side of BlocksOf. No program in sight. -/
import Derived.Test.YtedlhhhfifdnfaaGA
set_option linter.unusedVariables false
set_option linter.unusedSimpArgs false
namespace Go.Proofs.Ytedlhhhfifdnfaa
open Go.RowKit

def goes (x : GInstr) : Bool := x.op == 25 || x.op == 26 || x.op == 27
def inCode (n : Nat) (x : GInstr) : Bool := !goes x || (decide (0 ≤ x.c) && decide (x.c < n))
def codeGood (code : List GInstr) : Bool := decide (1 ≤ code.length) && decide (code.length ≤ 1024) && code.all (inCode code.length)
def leadStep (b : List Bool) (i : Nat) (x : GInstr) : List Bool :=
  if goes x then (b.set x.c.toNat true).set (i + 1) true else if x.op == 29 then b.set (i + 1) true else b
def leadGo : List GInstr → Nat → List Bool → List Bool
  | [], _, b => b
  | x :: r, i, b => leadGo r (i + 1) (leadStep b i x)
def lead0 (n : Nat) : List Bool := (List.replicate (n + 1) false).set 0 true
def lead (code : List GInstr) : List Bool := leadGo code 0 (lead0 code.length)
theorem leadStep_len (b : List Bool) (i : Nat) (x : GInstr) : (leadStep b i x).length = b.length := by
  unfold leadStep
  split
  · simp
  · split <;> simp
theorem leadGo_len : ∀ (c : List GInstr) (i : Nat) (b : List Bool), (leadGo c i b).length = b.length
  | [], _, _ => rfl
  | x :: r, i, b => by rw [leadGo, leadGo_len r, leadStep_len]
theorem lead_len (code : List GInstr) : (lead code).length = code.length + 1 := by
  unfold lead lead0; rw [leadGo_len]; simp
theorem set_keep (b : List Bool) (j : Nat) (h : b[0]? = some true) : (b.set j true)[0]? = some true := by
  rw [List.getElem?_set]
  split
  · rename_i h'; subst h'; rw [if_pos (List.getElem?_eq_some_iff.1 h).1]
  · exact h
theorem leadStep_0 (b : List Bool) (i : Nat) (x : GInstr) (h : b[0]? = some true) : (leadStep b i x)[0]? = some true := by
  unfold leadStep
  split
  · exact set_keep _ _ (set_keep _ _ h)
  · split
    · exact set_keep _ _ h
    · exact h
theorem leadGo_0 : ∀ (c : List GInstr) (i : Nat) (b : List Bool), b[0]? = some true → (leadGo c i b)[0]? = some true
  | [], _, _, h => h
  | x :: r, i, b, h => by rw [leadGo]; exact leadGo_0 r _ _ (leadStep_0 b i x h)
theorem lead_0 (code : List GInstr) : (lead code)[0]? = some true := leadGo_0 _ _ _ (by unfold lead0; simp)

/-- The blocks so far, and each instruction's block. -/
def setLast (out : List GBlock) (i : Int) : List GBlock := match out.getLast? with | some b => out.dropLast ++ [⟨b.first, i, b.next⟩] | none => []
def blkOut (out : List GBlock) (i : Nat) (l : Bool) : List GBlock := if l then out ++ [⟨i, i, []⟩] else setLast out i
def blkGo : List Bool → Nat → List GBlock → List Int → List GBlock × List Int
  | [], _, out, at_ => (out, at_)
  | l :: r, i, out, at_ => blkGo r (i + 1) (blkOut out i l) (at_ ++ [((blkOut out i l).length : Int) - 1])
theorem setLast_snoc (o : List GBlock) (b : GBlock) (i : Int) : setLast (o ++ [b]) i = o ++ [⟨b.first, i, b.next⟩] := by
  simp [setLast]
theorem snoc_of {out : List GBlock} (h : out ≠ []) : ∃ o b, out = o ++ [b] := ⟨out.dropLast, out.getLast h, (List.dropLast_concat_getLast h).symm⟩
theorem blkOut_len (out : List GBlock) (i : Nat) (l : Bool) (h : l = true ∨ out ≠ []) : (blkOut out i l).length = out.length + (if l then 1 else 0) ∧ blkOut out i l ≠ [] := by
  unfold blkOut
  cases l with
  | true => simp
  | false =>
    have hne : out ≠ [] := h.resolve_left (by simp)
    obtain ⟨o, b, rfl⟩ := snoc_of hne
    simp [setLast_snoc]
/-- What is known of the blocks behind i instructions. -/
structure BlkInv (i : Nat) (out : List GBlock) (at_ : List Int) : Prop where
  len : at_.length = i
  ne : 0 < i → out ≠ []
  le : out.length ≤ i
  nx : ∀ b ∈ out, b.next = []
  last : ∀ (b : Nat) (x : GBlock), out[b]? = some x → 0 ≤ x.last ∧ x.last < (i : Int) ∧ (b + 1 = out.length → x.last + 1 = (i : Int)) ∧ (b + 1 < out.length → x.last + 1 < (i : Int) ∧ at_[(x.last + 1).toNat]? = some ((b : Int) + 1))
  rng : ∀ (k : Nat) (n : Int), at_[k]? = some n → 0 ≤ n ∧ n < (out.length : Int)
theorem BlkInv.start : BlkInv 0 [] [] := ⟨rfl, fun h => absurd h (by simp), by simp, by simp, fun b x h => by simp at h, fun k n h => by simp at h⟩
theorem BlkInv.step {i : Nat} {out : List GBlock} {at_ : List Int} (v : BlkInv i out at_) (l : Bool) (h : l = true ∨ 0 < i) : BlkInv (i + 1) (blkOut out i l) (at_ ++ [((blkOut out i l).length : Int) - 1]) := by
  have hlen := v.len
  cases l with
  | true =>
    have e : blkOut out i true = out ++ [⟨i, i, []⟩] := rfl
    rw [e]
    refine ⟨by simp [hlen], by simp, by have := v.le; simp; omega, fun b hb => ?_, fun b x hx => ?_, fun k n hk => ?_⟩
    · rcases List.mem_append.1 hb with hb | hb
      · exact v.nx b hb
      · rw [List.mem_singleton.1 hb]
    · rcases Nat.lt_or_ge b out.length with hb | hb
      · rw [List.getElem?_append_left hb] at hx
        obtain ⟨h1, h2, h3, h4⟩ := v.last b x hx
        refine ⟨h1, by omega, fun h5 => by simp at h5; omega, fun _ => ?_⟩
        rcases Nat.lt_or_ge (b + 1) out.length with h6 | h6
        · obtain ⟨h7, h8⟩ := h4 h6
          refine ⟨by omega, ?_⟩
          rw [List.getElem?_append_left (List.getElem?_eq_some_iff.1 h8).1]
          exact h8
        · have h7 := h3 (by omega)
          refine ⟨by omega, ?_⟩
          rw [h7, show ((i : Int)).toNat = i by simp, List.getElem?_append_right (by omega), hlen]
          simp
          omega
      · have hb' : b = out.length := by
          have := (List.getElem?_eq_some_iff.1 hx).1
          simp at this
          omega
        subst hb'
        simp at hx
        subst hx
        exact ⟨by simp, by simp; omega, fun _ => by simp, fun h5 => by simp at h5⟩
    · rcases Nat.lt_or_ge k at_.length with hk' | hk'
      · rw [List.getElem?_append_left hk'] at hk
        obtain ⟨h1, h2⟩ := v.rng k n hk
        exact ⟨h1, by simp; omega⟩
      · have hkk : k = at_.length := by
          have := (List.getElem?_eq_some_iff.1 hk).1
          simp at this
          omega
        subst hkk
        simp at hk
        subst hk
        simp
        omega
  | false =>
    have hi : 0 < i := h.resolve_left (by simp)
    obtain ⟨o, b0, rfl⟩ := snoc_of (v.ne hi)
    have e : blkOut (o ++ [b0]) i false = o ++ [⟨b0.first, i, b0.next⟩] := setLast_snoc o b0 i
    rw [e]
    refine ⟨by simp [hlen], by simp, by have := v.le; simp at this ⊢; omega, fun b hb => ?_, fun b x hx => ?_, fun k n hk => ?_⟩
    · rcases List.mem_append.1 hb with hb | hb
      · exact v.nx b (List.mem_append_left _ hb)
      · rw [List.mem_singleton.1 hb]
        exact v.nx b0 (by simp)
    · rcases Nat.lt_or_ge b o.length with hb | hb
      · rw [List.getElem?_append_left hb] at hx
        obtain ⟨h1, h2, h3, h4⟩ := v.last b x (by rw [List.getElem?_append_left hb]; exact hx)
        obtain ⟨h7, h8⟩ := h4 (by simp; omega)
        refine ⟨h1, by omega, fun h5 => by simp at h5; omega, fun _ => ⟨by omega, ?_⟩⟩
        rw [List.getElem?_append_left (List.getElem?_eq_some_iff.1 h8).1]
        exact h8
      · have hb' : b = o.length := by
          have := (List.getElem?_eq_some_iff.1 hx).1
          simp at this
          omega
        subst hb'
        simp at hx
        subst hx
        exact ⟨by simp, by simp; omega, fun _ => by simp, fun h5 => by simp at h5⟩
    · rcases Nat.lt_or_ge k at_.length with hk' | hk'
      · rw [List.getElem?_append_left hk'] at hk
        have := v.rng k n hk
        simpa using this
      · have hkk : k = at_.length := by
          have := (List.getElem?_eq_some_iff.1 hk).1
          simp at this
          omega
        subst hkk
        simp at hk
        subst hk
        simp
        omega
theorem blkGo_inv : ∀ (r : List Bool) (i : Nat) (out : List GBlock) (at_ : List Int), BlkInv i out at_ → (∀ h : 0 < r.length, r[0] = true ∨ 0 < i) → BlkInv (i + r.length) (blkGo r i out at_).1 (blkGo r i out at_).2
  | [], i, out, at_, v, _ => v
  | l :: r, i, out, at_, v, h => by
    have := blkGo_inv r (i + 1) _ _ (v.step l (h (by simp))) (fun _ => .inr (by omega))
    rw [blkGo]
    rw [show i + (l :: r).length = i + 1 + r.length by simp; omega]
    exact this

/-- Where a block goes. nb: how many blocks; at_: each instruction's block; b: this one; x: its last instruction. -/
def nextOf (nb : Nat) (at_ : List Int) (b : Nat) (x : GInstr) : List Int :=
  let a : List Int := if x.op ≠ 25 ∧ x.op ≠ 29 ∧ b + 1 < nb then [(b : Int) + 1] else []
  if goes x = true ∧ (a = [] ∨ a ≠ [at_.getD x.c.toNat 0]) then a ++ [at_.getD x.c.toNat 0] else a
def zI : GInstr := ⟨0, 0, 0, 0⟩
def finL (code : List GInstr) (nb : Nat) (at_ : List Int) : List GBlock → Nat → List GBlock
  | [], _ => []
  | b :: r, i => ⟨b.first, b.last, nextOf nb at_ i (code.getD b.last.toNat zI)⟩ :: finL code nb at_ r (i + 1)
def blocks0 (code : List GInstr) : List GBlock × List Int := blkGo ((lead code).take code.length) 0 [] []
def blocksOf (code : List GInstr) : List GBlock := if codeGood code then finL code (blocks0 code).1.length (blocks0 code).2 (blocks0 code).1 0 else []
theorem finL_len (code : List GInstr) (nb : Nat) (at_ : List Int) : ∀ (l : List GBlock) (i : Nat), (finL code nb at_ l i).length = l.length
  | [], _ => rfl
  | b :: r, i => by rw [finL, List.length_cons, finL_len code nb at_ r, List.length_cons]
theorem finL_get (code : List GInstr) (nb : Nat) (at_ : List Int) : ∀ (l : List GBlock) (i k : Nat) (h : k < l.length), (finL code nb at_ l i)[k]'(by rw [finL_len]; exact h) = ⟨l[k].first, l[k].last, nextOf nb at_ (i + k) (code.getD l[k].last.toNat zI)⟩
  | b :: r, i, 0, _ => by simp [finL]
  | b :: r, i, k + 1, h => by
    simp only [finL, List.getElem_cons_succ]
    rw [finL_get code nb at_ r (i + 1) k (by simpa using h), show i + 1 + k = i + (k + 1) by omega]
theorem blocks0_inv (code : List GInstr) (h : 1 ≤ code.length) : BlkInv code.length (blocks0 code).1 (blocks0 code).2 := by
  have hl : ((lead code).take code.length).length = code.length := by rw [List.length_take, lead_len]; omega
  have := blkGo_inv ((lead code).take code.length) 0 [] [] BlkInv.start (fun hp => .inl (by
    have h0 := lead_0 code
    have : ((lead code).take code.length)[0]? = some true := by rw [List.getElem?_take, if_pos (by omega)]; exact h0
    exact (List.getElem?_eq_some_iff.1 this).2))
  rw [hl, Nat.zero_add] at this
  exact this
theorem nextOf_eq (nb : Nat) (at_ : List Int) (b : Nat) (x : GInstr) (c : Nat) (n : Int) (hc : goes x = true → x.c = c) (hat : goes x = true → at_.getD c 0 = n) (y : List Int) (hy : y = if x.op ≠ 25 ∧ x.op ≠ 29 ∧ b + 1 < nb then [(b : Int) + 1] else []) : nextOf nb at_ b x = if goes x = true ∧ (y = [] ∨ y ≠ [n]) then y ++ [n] else y := by
  unfold nextOf
  rw [← hy]
  cases hg : goes x with
  | false => simp
  | true => rw [hc hg, Int.toNat_natCast, hat hg]
theorem finL_step (code : List GInstr) (nb : Nat) (at_ : List Int) (l : List GBlock) (i : Nat) (h : i < l.length) : (finL code nb at_ l 0).take (i + 1) = (finL code nb at_ l 0).take i ++ [⟨l[i].first, l[i].last, nextOf nb at_ i (code.getD l[i].last.toNat zI)⟩] := by
  have hl : i < (finL code nb at_ l 0).length := by rw [finL_len]; exact h
  rw [List.take_add_one, List.getElem?_eq_getElem hl, finL_get code nb at_ l 0 i h, Nat.zero_add]
  rfl
theorem blocksOf_good (code : List GInstr) (h : codeGood code = true) : blocksOf code = finL code (blocks0 code).1.length (blocks0 code).2 (blocks0 code).1 0 := by
  unfold blocksOf
  rw [h]
  rfl
end Go.Proofs.Ytedlhhhfifdnfaa
