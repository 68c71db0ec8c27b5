/-
  The law RowsMay holds of the given program, whatever it is called with.
  Conditions: none.
-/
import Derived.Test.YtamoclnnakdiaaaRows
import Derived.Test.YtamoclnnakdiaaaA15
import Derived.Test.YtamoclnnakdiaaaL1
import Derived.WalkKit
import Derived.ProofKit
import Derived.OpenShut
import Derived.ShutString
import Derived.ChangeOld
import Derived.Below
import Derived.Carry
import Derived.SizedLaws
namespace Go.Proofs.Ytamoclnnakdiaaa.rowsMay
open Go.ChangeShapes Go.WideShapes Go.ChangeAt Go.RowKit Go.Proofs.Ytamoclnnakdiaaa.Abs
open Go.ChangeMaps (open_string shut_string)
set_option linter.unusedVariables false
theorem own : ownKnob Try.prog.godebug = none := by kernel_rfl
theorem laidOut : laidOutB Try.prog = true := by kernel_rfl
set_option maxRecDepth 100000 in
theorem lifted (os : Os) (started : os.Started) (H : Type) (enc : TypeId × Value → H) :
    ReturnsInHanded {} Try.checked os 3 .any (Rows.rowsMaySpec.pre6 enc Try.prog Try.f3 Rows.rowsMayRow.domain false) (Rows.rowsMaySpec.post enc Try.prog Try.f3 false true false false) := by
  refine returnsInHanded_of_change_sized (C := Try.checked) own started (by kernel_rfl) Try.func3
    (ChangeSpec.witness6 (enc := enc) (C := Try.checked) false ⟨#[], #[(.agg #[(.int .i64 0), (.int .i64 0), (.string ByteArray.empty)]), (.agg #[(.string ByteArray.empty), (.string ByteArray.empty), (.string ByteArray.empty), (.slice none 0 0), (.slice none 0 0)]), (.slice none 0 0), (.slice none 0 0)], []⟩ 8 (by kernel_rfl) (by kernel_rfl) (by kernel_rfl) (by kernel_rfl)) ?_
  intro W base args ds gs before hval0 hW hcnd hsz0 _
  have hsz : (DataW.weightsEach Try.prog (Try.f3.params.toList ++ Rows.rowsMaySpec.plain.varTypes Try.prog) (ds ++ gs)).all (· ≤ reachBytes) = true := hsz0
  have hval : ∀ (j : Nat) t v, Try.f3.params[j]? = some t → args[j]? = some v → Value.okWide Try.prog W .any base t v := hval0
  have hW' := hW
  obtain ⟨p, q, hA0, hV, rfl, hfz, hnd⟩ := hW
  have hA : DataW.TrodAll enc Try.prog W 0 (fun _ => true) true Try.f3.params.toList args.toList ds p := hA0
  rw [Try.params3] at hA hval hsz
  obtain ⟨v0, vs0, d0, ds0, p0, q0, hargs, rfl, rfl, h0, r0⟩ := trodAll_cons hA
  obtain ⟨v1, vs1, d1, ds1, p1, q1, rfl, rfl, rfl, h1, r1⟩ := trodAll_cons r0
  obtain ⟨v2, vs2, d2, ds2, p2, q2, rfl, rfl, rfl, h2, r2⟩ := trodAll_cons r1
  obtain ⟨v3, vs3, d3, ds3, p3, q3, rfl, rfl, rfl, h3, r3⟩ := trodAll_cons r2
  obtain ⟨rfl, rfl, rfl⟩ := trodAll_nil r3
  obtain rfl : args = #[v0, v1, v2, v3] := by cases args; simp_all
  obtain ⟨rfl, rfl⟩ := trodVars_none hV
  have e0 : ∀ n, n ∈ d0.weights Try.prog 24 → n ≤ reachBytes := fun n hn => by simpa using List.all_eq_true.1 hsz _ (DataW.weights_mem_each (j := 0) rfl rfl n hn)
  have lt0 : ∀ x ∈ p0, x.block < W.heap.size := by obtain ⟨m, hm⟩ := h0; exact DataW.trod_lt m _ _ _ hm
  obtain ⟨a0, w0, b0⟩ := (opn_val (w := W) (ρ := fun _ => 0)).argAgg fo_24 (hval 0 24 v0 rfl rfl) h0 e0
  have e1 : ∀ n, n ∈ d1.weights Try.prog 28 → n ≤ reachBytes := fun n hn => by simpa using List.all_eq_true.1 hsz _ (DataW.weights_mem_each (j := 1) rfl rfl n hn)
  have lt1 : ∀ x ∈ p1, x.block < W.heap.size := by obtain ⟨m, hm⟩ := h1; exact DataW.trod_lt m _ _ _ hm
  obtain ⟨a1, w1, b1⟩ := (opn_table (w := W) (ρ := fun _ => 0)).argAgg fo_28 (hval 1 28 v1 rfl rfl) h1 e1
  have e2 : ∀ n, n ∈ d2.weights Try.prog 29 → n ≤ reachBytes := fun n hn => by simpa using List.all_eq_true.1 hsz _ (DataW.weights_mem_each (j := 2) rfl rfl n hn)
  have lt2 : ∀ x ∈ p2, x.block < W.heap.size := by obtain ⟨m, hm⟩ := h2; exact DataW.trod_lt m _ _ _ hm
  obtain ⟨x2, y2, z2, rfl⟩ := okWide_slice un_29 (hval 2 29 v2 rfl rfl)
  obtain ⟨a2, w2, b2⟩ := (opn_vals (w := W) (ρ := fun _ => 0)).argOne rfl h2 e2
  have e3 : ∀ n, n ∈ d3.weights Try.prog 29 → n ≤ reachBytes := fun n hn => by simpa using List.all_eq_true.1 hsz _ (DataW.weights_mem_each (j := 3) rfl rfl n hn)
  have lt3 : ∀ x ∈ p3, x.block < W.heap.size := by obtain ⟨m, hm⟩ := h3; exact DataW.trod_lt m _ _ _ hm
  obtain ⟨x3, y3, z3, rfl⟩ := okWide_slice un_29 (hval 3 29 v3 rfl rfl)
  obtain ⟨a3, w3, b3⟩ := (opn_vals (w := W) (ρ := fun _ => 0)).argOne rfl h3 e3
  clear hA0 hval0 hsz0 hsz
  refine (QuietF.row hb_3 (rowsMay_law a0 w0 a1 w1 a2 w2 a3 w3 []) (repL_four b0 b1 b2 b3)).mono fun e W' ⟨he, bel⟩ => ?_
  subst he
  exact ⟨_, rfl, _, _, _, [], _, [], hW', trodAll_mk1 (shut_bool un_4 _), (trodAll_cons_mk (Below.trod laidOut (by kernel_rfl) (of_decide_eq_true (by kernel_rfl)) h0 bel lt0) (trodAll_cons_mk (Below.trod laidOut (by kernel_rfl) (of_decide_eq_true (by kernel_rfl)) h1 bel lt1) (trodAll_cons_mk (Below.trod laidOut (by kernel_rfl) (of_decide_eq_true (by kernel_rfl)) h2 bel lt2) (trodAll_cons_mk (Below.trod laidOut (by kernel_rfl) (of_decide_eq_true (by kernel_rfl)) h3 bel lt3) trodAll_mk0)))), rfl, bel.frame _, fun h => by cases h⟩
theorem over : Rows.rowsMayRow.holds Try.pinned (OpenSpec.ofChange Rows.rowsMaySpec) :=
  OpenClaim.holds_of_wide 3 Try.f3 rfl rfl rfl rfl rfl rfl rfl ⟨rfl, rfl, rfl, rfl, rfl⟩ rfl rfl rfl rfl rfl (by kernel_rfl) Try.func3 (by kernel_rfl)
    (of_decide_eq_true (by kernel_rfl)) (by unfold Func.isWrapper; first | (rw [if_pos (by decide +kernel)]; kernel_rfl) | (rw [if_neg (by decide +kernel)]; exact ⟨rfl, rfl⟩))
    (fun os started H enc _ => lifted os started H enc)
theorem proved : Rows.RowsMaySaid := over
end Go.Proofs.Ytamoclnnakdiaaa.rowsMay
namespace Go.Proofs.Ytamoclnnakdiaaa
/-- The row, under a short name. -/
theorem rowsMay_holds : Rows.RowsMaySaid := rowsMay.proved
#print axioms rowsMay_holds
end Go.Proofs.Ytamoclnnakdiaaa
