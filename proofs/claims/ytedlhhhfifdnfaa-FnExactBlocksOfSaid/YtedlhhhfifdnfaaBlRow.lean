/-
  FnExactBlocksOf: for every list of instructions that can be read, the law's call returns true, and the list reads afterwards as it read before. Conditions: none beyond the row's own.
-/
import Derived.Test.YtedlhhhfifdnfaaRows
import Derived.Test.YtedlhhhfifdnfaaBlLaw
import Derived.Test.YtedlhhhfifdnfaaRead
import Derived.WalkKit
import Derived.ProofKit
import Derived.OpenShut
import Derived.ChangeOld
import Derived.Below
namespace Go.Proofs.Ytedlhhhfifdnfaa.BlRow
open Go.ChangeShapes Go.WideShapes Go.ChangeAt Go.RowKit
set_option linter.unusedVariables false
theorem own : ownKnob Try.prog.godebug = none := by kernel_rfl
theorem laidOut : laidOutB Try.prog = true := by kernel_rfl

set_option maxRecDepth 100000 in
theorem rdInstr {H : Type} {enc : TypeId × Value → H} {w : World} {base : Nat} {spare : Nat → Bool} {held : Bool} : ∀ (fuel : Nat) (cs : List Value) (x : DataW H × List MemPlace), DataW.trod enc Try.prog w base spare held fuel 94 cs = some x → ∃ a : GInstr, Rd w (GInstr.d a) cs := by
  intro fuel cs x h
  obtain ⟨m, hm, hl, hf⟩ := trod_fields (sz := 4) Try.underlying94 (by kernel_rfl) h
  match cs, hl with
  | [q0, q1, q2, q3], _ =>
    obtain ⟨_, h0⟩ := hf 0 _ rfl
    obtain ⟨_, h1⟩ := hf 1 _ rfl
    obtain ⟨_, h2⟩ := hf 2 _ rfl
    obtain ⟨_, h3⟩ := hf 3 _ rfl
    obtain ⟨n0, e0, w0⟩ := trod_int_d Try.underlying2 h0
    have e0 : [q0] = [.int .i64 n0] := e0
    obtain rfl := List.singleton_inj.1 e0
    obtain ⟨n1, e1, w1⟩ := trod_int_d Try.underlying2 h1
    have e1 : [q1] = [.int .i64 n1] := e1
    obtain rfl := List.singleton_inj.1 e1
    obtain ⟨n2, e2, w2⟩ := trod_int_d Try.underlying2 h2
    have e2 : [q2] = [.int .i64 n2] := e2
    obtain rfl := List.singleton_inj.1 e2
    obtain ⟨n3, e3, w3⟩ := trod_int_d Try.underlying2 h3
    have e3 : [q3] = [.int .i64 n3] := e3
    obtain rfl := List.singleton_inj.1 e3
    exact ⟨⟨n0, n1, n2, n3⟩, Rd.agg_ (RdAll.int_ (RdAll.int_ (RdAll.int_ (RdAll.int_ (RdAll.nil_)))))⟩
set_option maxRecDepth 100000 in
theorem rdInstrS {H : Type} {enc : TypeId × Value → H} {w : World} {base : Nat} {spare : Nat → Bool} {held : Bool} : ∀ (fuel : Nat) (cs : List Value) (x : DataW H × List MemPlace), DataW.trod enc Try.prog w base spare held fuel 29 cs = some x → ∃ a : List GInstr, Rd w (D.slice 90 4 (a.map GInstr.d)) cs := by
  intro fuel cs x h
  exact trod_rows (e := 94) (sz := 4) Try.underlying29 (by kernel_rfl) (by omega) GInstr.d 90 fuel (fun n cs x _ h => rdInstr n cs x h) h
set_option maxRecDepth 100000 in
theorem lifted (os : Os) (started : os.Started) (H : Type) (enc : TypeId × Value → H) :
    ReturnsInHanded {} Try.checked os 4 .any (Rows.fnExactBlocksOfSpec.pre6 enc Try.prog Try.f4 Rows.fnExactBlocksOfRow.domain false) (Rows.fnExactBlocksOfSpec.post enc Try.prog Try.f4 false true false false) := by
  refine returnsInHanded_of_change (C := Try.checked) own started (by kernel_rfl) Try.func4
    (ChangeSpec.witness6 (enc := enc) (C := Try.checked) false ⟨#[], #[.slice none 0 0], []⟩ 8 (by kernel_rfl) (by kernel_rfl) (by kernel_rfl) (by kernel_rfl)) ?_
  intro W base args ds gs before hval0 hW hcnd _
  have hval : ∀ (j : Nat) t v, Try.f4.params[j]? = some t → args[j]? = some v → Value.okWide Try.prog W .any base t v := hval0
  have hW' := hW
  obtain ⟨p, q, hA0, hV, rfl, hfz, hnd⟩ := hW
  have hA : DataW.TrodAll enc Try.prog W 0 (fun _ => true) true Try.f4.params.toList args.toList ds p := hA0
  rw [Try.params4] at hA hval
  obtain ⟨v0, vs0, d0, ds0, p0, q0, hargs, rfl, rfl, h0, r0⟩ := trodAll_cons hA
  obtain ⟨rfl, rfl, rfl⟩ := trodAll_nil r0
  obtain rfl : args = #[v0] := by cases args; simp_all
  obtain ⟨rfl, rfl⟩ := trodVars_none hV
  obtain ⟨a0, len0, cap0, rfl⟩ := okWide_slice Try.underlying29 (hval 0 29 v0 rfl rfl)
  have k0 := h0
  have lt0 : ∀ x ∈ p0, x.block < W.heap.size := by obtain ⟨m, hm⟩ := k0; exact DataW.trod_lt m _ _ _ hm
  obtain ⟨xs, hx⟩ : ∃ xs : List GInstr, Rd W (D.slice 90 4 (xs.map GInstr.d)) [.slice a0 len0 cap0] := by
    obtain ⟨fuel, hf⟩ := h0
    exact rdInstrS fuel _ _ hf
  clear hA0 hval0
  refine (blocksOf_law xs _ W hx).mono fun e W' ⟨he, bel⟩ => ?_
  subst he
  exact ⟨_, rfl, _, _, _, [], _, [], hW', trodAll_mk1 (shut_bool Try.underlying4 _), trodAll_cons_mk (Below.trod laidOut (by kernel_rfl) (of_decide_eq_true (by kernel_rfl)) k0 bel lt0) trodAll_mk0, rfl, bel.frame _, fun h => by cases h⟩

theorem over : Rows.fnExactBlocksOfRow.holds Try.pinned (OpenSpec.ofChange Rows.fnExactBlocksOfSpec) :=
  OpenClaim.holds_of_wide 4 Try.f4 rfl rfl rfl rfl rfl rfl rfl ⟨rfl, rfl, rfl, rfl, rfl⟩ rfl rfl rfl rfl rfl (by kernel_rfl) Try.func4 (by kernel_rfl)
    (of_decide_eq_true (by kernel_rfl)) (by unfold Func.isWrapper; first | (rw [if_pos (by decide +kernel)]; kernel_rfl) | (rw [if_neg (by decide +kernel)]; exact ⟨rfl, rfl⟩))
    (fun os started H enc _ => lifted os started H enc)
theorem proved : Rows.FnExactBlocksOfSaid := over
#print axioms proved
end Go.Proofs.Ytedlhhhfifdnfaa.BlRow
namespace Go.Proofs.Ytedlhhhfifdnfaa
/-- The row, under a short name, for the claim. -/
theorem blocksOf_holds : Rows.FnExactBlocksOfSaid := BlRow.proved
end Go.Proofs.Ytedlhhhfifdnfaa
