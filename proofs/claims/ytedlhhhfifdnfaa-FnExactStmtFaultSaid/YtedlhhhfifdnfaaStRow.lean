/-
  FnExactStmtFault: for every list of statements that can be read, the law's call returns true, and the list reads afterwards as it read before. Conditions: none beyond the row's own.
-/
import Derived.Test.YtedlhhhfifdnfaaRows
import Derived.Test.YtedlhhhfifdnfaaSt9
import Derived.Test.YtedlhhhfifdnfaaRead
import Derived.WalkKit
import Derived.ProofKit
import Derived.OpenShut
import Derived.ChangeOld
import Derived.Below
namespace Go.Proofs.Ytedlhhhfifdnfaa.StmtRow
open Go.ChangeShapes Go.WideShapes Go.ChangeAt Go.RowKit
set_option linter.unusedVariables false
theorem own : ownKnob Try.prog.godebug = none := by kernel_rfl
theorem laidOut : laidOutB Try.prog = true := by kernel_rfl

set_option maxRecDepth 100000 in
theorem readSt {H : Type} {enc : TypeId × Value → H} {w : World} {base : Nat} {spare : Nat → Bool} {held : Bool} : ∀ (fuel : Nat) (cs : List Value) (x : DataW H × List MemPlace),
    DataW.trod enc Try.prog w base spare held fuel 22 cs = some x → ∃ xs : List St, Rd w (.slice 0 5 (St.ds 0 xs)) cs := by
  intro fuel
  induction fuel using Nat.strongRecOn with
  | _ fuel IH =>
    intro cs x h
    obtain ⟨xs, hx⟩ := trod_rows (e := 77) (sz := 5) Try.underlying22 (by kernel_rfl) (by omega) (St.d 0) 0 fuel (fun n cs x hn h => by
      obtain ⟨m, hm, hl, hf⟩ := trod_fields (sz := 5) Try.underlying77 (by kernel_rfl) h
      match cs, hl with
      | [q0, q1, q2, q3, q4], _ =>
        obtain ⟨_, h0⟩ := hf 0 _ rfl
        obtain ⟨_, h1⟩ := hf 1 _ rfl
        obtain ⟨_, h2⟩ := hf 2 _ rfl
        obtain ⟨_, h3⟩ := hf 3 _ rfl
        obtain ⟨_, h4⟩ := hf 4 _ rfl
        obtain ⟨k, e0, _⟩ := trod_int_d Try.underlying2 h0
        obtain ⟨a, e1, _⟩ := trod_int_d Try.underlying2 h1
        obtain ⟨b, e2, _⟩ := trod_int_d Try.underlying2 h2
        obtain ⟨x, h5⟩ := IH m (by omega) _ _ h3
        obtain ⟨y, h6⟩ := IH m (by omega) _ _ h4
        have e0 : [q0] = [.int .i64 k] := e0
        have e1 : [q1] = [.int .i64 a] := e1
        have e2 : [q2] = [.int .i64 b] := e2
        have h5 : Rd w (.slice 0 5 (St.ds 0 x)) [q3] := h5
        have h6 : Rd w (.slice 0 5 (St.ds 0 y)) [q4] := h6
        obtain rfl := List.singleton_inj.1 e0
        obtain rfl := List.singleton_inj.1 e1
        obtain rfl := List.singleton_inj.1 e2
        exact ⟨.mk k a b x y, by
          simp only [St.d]
          exact Rd.agg_ (RdAll.int_ (RdAll.int_ (RdAll.int_ (RdAll.sl_ h5 (RdAll.sl_ h6 RdAll.nil_)))))⟩) h
    exact ⟨xs, by rw [ds_eq]; exact hx⟩

set_option maxRecDepth 100000 in
theorem lifted (os : Os) (started : os.Started) (H : Type) (enc : TypeId × Value → H) :
    ReturnsInHanded {} Try.checked os 3 .any (Rows.fnExactStmtFaultSpec.pre6 enc Try.prog Try.f3 Rows.fnExactStmtFaultRow.domain false) (Rows.fnExactStmtFaultSpec.post enc Try.prog Try.f3 false true false false) := by
  refine returnsInHanded_of_change (C := Try.checked) own started (by kernel_rfl) Try.func3
    (ChangeSpec.witness6 (enc := enc) (C := Try.checked) false ⟨#[], #[.slice none 0 0], []⟩ 8 (by kernel_rfl) (by kernel_rfl) (by kernel_rfl) (by kernel_rfl)) ?_
  intro W base args ds gs before hval0 hW hcnd _
  have hval : ∀ (j : Nat) t v, Try.f3.params[j]? = some t → args[j]? = some v → Value.okWide Try.prog W .any base t v := hval0
  have hW' := hW
  obtain ⟨p, q, hA0, hV, rfl, hfz, hnd⟩ := hW
  have hA : DataW.TrodAll enc Try.prog W 0 (fun _ => true) true Try.f3.params.toList args.toList ds p := hA0
  rw [Try.params3] at hA hval
  obtain ⟨v0, vs0, d0, ds0, p0, q0, hargs, rfl, rfl, h0, r0⟩ := trodAll_cons hA
  obtain ⟨rfl, rfl, rfl⟩ := trodAll_nil r0
  obtain rfl : args = #[v0] := by cases args; simp_all
  obtain ⟨rfl, rfl⟩ := trodVars_none hV
  obtain ⟨a0, len0, cap0, rfl⟩ := okWide_slice Try.underlying22 (hval 0 22 v0 rfl rfl)
  have k0 := h0
  have lt0 : ∀ x ∈ p0, x.block < W.heap.size := by obtain ⟨m, hm⟩ := k0; exact DataW.trod_lt m _ _ _ hm
  obtain ⟨xs, hx⟩ : ∃ xs : List St, Rd W (.slice 0 5 (St.ds 0 xs)) [.slice a0 len0 cap0] := by
    obtain ⟨fuel, hf⟩ := h0
    exact readSt fuel _ _ hf
  clear hA0 hval0
  refine (stmtFault_law xs 0 _ W hx).mono fun e W' ⟨he, bel⟩ => ?_
  subst he
  exact ⟨_, rfl, _, _, _, [], _, [], hW', trodAll_mk1 (shut_bool Try.underlying4 _), trodAll_cons_mk (Below.trod laidOut (by kernel_rfl) (of_decide_eq_true (by kernel_rfl)) k0 bel lt0) trodAll_mk0, rfl, bel.frame _, fun h => by cases h⟩

theorem over : Rows.fnExactStmtFaultRow.holds Try.pinned (OpenSpec.ofChange Rows.fnExactStmtFaultSpec) :=
  OpenClaim.holds_of_wide 3 Try.f3 rfl rfl rfl rfl rfl rfl rfl ⟨rfl, rfl, rfl, rfl, rfl⟩ rfl rfl rfl rfl rfl (by kernel_rfl) Try.func3 (by kernel_rfl)
    (of_decide_eq_true (by kernel_rfl)) (by unfold Func.isWrapper; first | (rw [if_pos (by decide +kernel)]; kernel_rfl) | (rw [if_neg (by decide +kernel)]; exact ⟨rfl, rfl⟩))
    (fun os started H enc _ => lifted os started H enc)
theorem proved : Rows.FnExactStmtFaultSaid := over
#print axioms proved
end Go.Proofs.Ytedlhhhfifdnfaa.StmtRow
namespace Go.Proofs.Ytedlhhhfifdnfaa
/-- The row, under a short name, for the claim. -/
theorem stmtFault_holds : Rows.FnExactStmtFaultSaid := StmtRow.proved
end Go.Proofs.Ytedlhhhfifdnfaa
