/-
  RowsMay.
  Conditions: none.
-/
import Derived.Test.YtamoclnnakdiaaaC22
namespace Go.Proofs.Ytamoclnnakdiaaa.Abs
open Go Go.RowKit
set_option linter.unusedVariables false
set_option maxRecDepth 100000
set_option maxHeartbeats 4000000
set_option linter.unusedSimpArgs false

theorem rowsMay_law (v : ValR) (hv : tx v.text) (t : TableR) (ht : t.opn) (a : List ValR) (ha : (∀ c, c ∈ a → tx c.text) ∧ a.length * 32 ≤ 140737488351232) (b : List ValR) (hb : (∀ c, c ∈ b → tx c.text) ∧ b.length * 32 ≤ 140737488351232) (H : List AObj) :
    QuietF Go.Proofs.Try.prog 3 [.agg v.cells, .agg t.cells, .fz (a.map ValR.av), .fz (b.map ValR.av)] H (.bool true) := by
  refine ACallF.of hb_3 (acalls_body Try.func3 rfl ?_)
  intro hB hA
  rw [args0_3]
  simp only [ValR.cells]
  cases hl : largeB t a with
  | true =>
    repeat' (first
      | ((with_reducible first | refine isWL ?_ | refine isGW ?_ | refine isWQ ?_ | refine isGQ ?_); (first | simp only [go_sem, Nat.reduceAdd, Nat.reduceMul, Nat.reduceLeDiff, Nat.reduceLT, Nat.reduceEqDiff, Int.reduceToNat, Int.reduceLE, Int.reduceLT, List.forall_mem_cons, List.not_mem_nil, false_implies, implies_true, hl, hc] | simp only [go_sem, Nat.reduceAdd, Nat.reduceMul, Nat.reduceLeDiff, Nat.reduceLT, Nat.reduceEqDiff, Int.reduceToNat, Int.reduceLE, Int.reduceLT, List.forall_mem_cons, List.not_mem_nil, false_implies, implies_true, hl]))
      | refine awp_seq_k (fun K hK => ?_)
      | refine awp_block ?_
      | refine awp_region_w (by first | (simp; done) | assumption | (simp; omega)) (fun Q hQ => ?_)
      | refine awp_region_q mixed (by kernel_rfl) (by kernel_rfl) rfl (by first | (simp; done) | assumption | (simp; omega)) (fun Q hQ => ?_)
      | refine callW_quiet (TableR.opn_large ht ha.2 _) ?_
      | refine callQ_quiet (TableR.opn_large ht ha.2 _) ?_
      | refine Both.mk ?_ ?_
      | (refine hQ _ _ ?_; clear hQ Q)
      | (refine hQ _ ?_; clear hQ Q)
      | refine awp_cond_true rfl ?_
      | refine awp_cond_false rfl ?_
      | refine awp_skip ?_
      | (refine awp_exit ?_; simp only [go_sem, Nat.reduceEqDiff])
      | (refine awp_ret ?_; try simp only [inBlock_ret, andThen_ret])
      | ((first | refine hK _ ?_ | (clear hK K; refine hK _ ?_) | (clear hK K; clear hK K; refine hK _ ?_) | (clear hK K; clear hK K; clear hK K; refine hK _ ?_) | (clear hK K; clear hK K; clear hK K; clear hK K; refine hK _ ?_) | (clear hK K; clear hK K; clear hK K; clear hK K; clear hK K; refine hK _ ?_) | (clear hK K; clear hK K; clear hK K; clear hK K; clear hK K; clear hK K; refine hK _ ?_)); clear hK; clear K)
      | refine And.intro (by first | assumption | omega | trivial | rfl | (simp; done)) ?_
      | (refine awp_cond _ rfl (fun hc => ?_) (fun hc => ?_) <;> (try simp only [Bool.not_eq_true', Bool.not_eq_false'] at hc) <;> (try simp only [hc]))
      | (refine gdW_split (fun hc => ?_) (fun hc => ?_) <;> (try simp only [Bool.not_eq_true', Bool.not_eq_false'] at hc))
      | (refine gdQ_split (fun hc => ?_) (fun hc => ?_) <;> (try simp only [Bool.not_eq_true', Bool.not_eq_false'] at hc)))
    first | exact end_quiet0 rfl rfl | exact end_quiet hB rfl rfl (by simp)
  | false =>
    obtain ⟨hf, hr⟩ := TableR.opn_fit ht hl
    have hri := alone_right t
    have u : Go.Proofs.Try.prog.underlying 4 = some .bool := un_4
    cases hal : aloneB t with
    | true =>
      have he : aloneE t = 0 := by simp [aloneE, hal]
      have hrt : rightT t = true := by rw [← hri, hal]
      repeat' (first
        | ((with_reducible first | refine isWL ?_ | refine isGW ?_ | refine isWQ ?_ | refine isGQ ?_); (first | simp only [go_sem, Nat.reduceAdd, Nat.reduceMul, Nat.reduceLeDiff, Nat.reduceLT, Nat.reduceEqDiff, Int.reduceToNat, Int.reduceLE, Int.reduceLT, List.forall_mem_cons, List.not_mem_nil, false_implies, implies_true, hl, he, hrt, eqL_refl, beq_self_eq_true, Int.reduceBEq, List.length_map, hc] | simp only [go_sem, Nat.reduceAdd, Nat.reduceMul, Nat.reduceLeDiff, Nat.reduceLT, Nat.reduceEqDiff, Int.reduceToNat, Int.reduceLE, Int.reduceLT, List.forall_mem_cons, List.not_mem_nil, false_implies, implies_true, hl, he, hrt, eqL_refl, beq_self_eq_true, Int.reduceBEq, List.length_map]))
        | refine awp_seq_k (fun K hK => ?_)
        | refine awp_block ?_
        | refine awp_region_w (by first | (simp; done) | assumption | (simp; omega)) (fun Q hQ => ?_)
        | refine awp_region_q mixed (by kernel_rfl) (by kernel_rfl) rfl (by first | (simp; done) | assumption | (simp; omega)) (fun Q hQ => ?_)
        | refine callW_quiet (TableR.opn_large ht ha.2 _) ?_
        | refine callQ_quiet (TableR.opn_large ht ha.2 _) ?_
        | refine callW_quiet (lawMay11_q _) ?_
        | refine callQ_quiet (lawMay11_q _) ?_
        | refine callW_quiet (rowsCheck_q t hf _) ?_
        | refine callQ_quiet (rowsCheck_q t hf _) ?_
        | refine callW_quiet (rowsMay_q v _) ?_
        | refine callQ_quiet (rowsMay_q v _) ?_
        | refine callW_quiet (refVal_q v _) ?_
        | refine callQ_quiet (refVal_q v _) ?_
        | refine callW_quiet (refRight_q t hf _) ?_
        | refine callQ_quiet (refRight_q t hf _) ?_
        | refine callW_quiet (rowsSame_q a b (by omega) _) ?_
        | refine callQ_quiet (rowsSame_q a b (by omega) _) ?_
        | refine callW_quiet (refSame_q a b (by omega) _) ?_
        | refine callQ_quiet (refSame_q a b (by omega) _) ?_
        | refine callW_quiet (rowsSame_q a a (by omega) _) ?_
        | refine callQ_quiet (rowsSame_q a a (by omega) _) ?_
        | refine Both.mk ?_ ?_
        | (refine hQ _ _ ?_; clear hQ Q)
        | (refine hQ _ ?_; clear hQ Q)
        | refine awp_cond_true rfl ?_
        | refine awp_cond_false rfl ?_
        | refine awp_skip ?_
        | (refine awp_exit ?_; simp only [go_sem, Nat.reduceEqDiff])
        | (refine awp_ret ?_; try simp only [inBlock_ret, andThen_ret])
        | ((first | refine hK _ ?_ | (clear hK K; refine hK _ ?_) | (clear hK K; clear hK K; refine hK _ ?_) | (clear hK K; clear hK K; clear hK K; refine hK _ ?_) | (clear hK K; clear hK K; clear hK K; clear hK K; refine hK _ ?_) | (clear hK K; clear hK K; clear hK K; clear hK K; clear hK K; refine hK _ ?_) | (clear hK K; clear hK K; clear hK K; clear hK K; clear hK K; clear hK K; refine hK _ ?_)); clear hK; clear K)
        | refine And.intro (by first | assumption | omega | trivial | rfl | (simp; done)) ?_
        | (refine awp_cond _ rfl (fun hc => ?_) (fun hc => ?_) <;> (try simp only [Bool.not_eq_true', Bool.not_eq_false'] at hc) <;> (try simp only [hc]))
        | (refine gdW_split (fun hc => ?_) (fun hc => ?_) <;> (try simp only [Bool.not_eq_true', Bool.not_eq_false'] at hc))
        | (refine gdQ_split (fun hc => ?_) (fun hc => ?_) <;> (try simp only [Bool.not_eq_true', Bool.not_eq_false'] at hc)))
      all_goals first | exact end_quiet0 rfl rfl | exact end_quiet hB rfl rfl (by simp)
    | false =>
      have he : aloneE t = 1 := by simp [aloneE, hal]
      have hrt : rightT t = false := by rw [← hri, hal]
      repeat' (first
        | ((with_reducible first | refine isWL ?_ | refine isGW ?_ | refine isWQ ?_ | refine isGQ ?_); (first | simp only [go_sem, Nat.reduceAdd, Nat.reduceMul, Nat.reduceLeDiff, Nat.reduceLT, Nat.reduceEqDiff, Int.reduceToNat, Int.reduceLE, Int.reduceLT, List.forall_mem_cons, List.not_mem_nil, false_implies, implies_true, hl, he, hrt, eqL_refl, beq_self_eq_true, Int.reduceBEq, List.length_map, hc] | simp only [go_sem, Nat.reduceAdd, Nat.reduceMul, Nat.reduceLeDiff, Nat.reduceLT, Nat.reduceEqDiff, Int.reduceToNat, Int.reduceLE, Int.reduceLT, List.forall_mem_cons, List.not_mem_nil, false_implies, implies_true, hl, he, hrt, eqL_refl, beq_self_eq_true, Int.reduceBEq, List.length_map]))
        | refine awp_seq_k (fun K hK => ?_)
        | refine awp_block ?_
        | refine awp_region_w (by first | (simp; done) | assumption | (simp; omega)) (fun Q hQ => ?_)
        | refine awp_region_q mixed (by kernel_rfl) (by kernel_rfl) rfl (by first | (simp; done) | assumption | (simp; omega)) (fun Q hQ => ?_)
        | refine callW_quiet (TableR.opn_large ht ha.2 _) ?_
        | refine callQ_quiet (TableR.opn_large ht ha.2 _) ?_
        | refine callW_quiet (lawMay11_q _) ?_
        | refine callQ_quiet (lawMay11_q _) ?_
        | refine callW_quiet (rowsCheck_q t hf _) ?_
        | refine callQ_quiet (rowsCheck_q t hf _) ?_
        | refine callW_quiet (rowsMay_q v _) ?_
        | refine callQ_quiet (rowsMay_q v _) ?_
        | refine callW_quiet (refVal_q v _) ?_
        | refine callQ_quiet (refVal_q v _) ?_
        | refine callW_quiet (refRight_q t hf _) ?_
        | refine callQ_quiet (refRight_q t hf _) ?_
        | refine callW_quiet (rowsSame_q a b (by omega) _) ?_
        | refine callQ_quiet (rowsSame_q a b (by omega) _) ?_
        | refine callW_quiet (refSame_q a b (by omega) _) ?_
        | refine callQ_quiet (refSame_q a b (by omega) _) ?_
        | refine callW_quiet (rowsSame_q a a (by omega) _) ?_
        | refine callQ_quiet (rowsSame_q a a (by omega) _) ?_
        | refine Both.mk ?_ ?_
        | (refine hQ _ _ ?_; clear hQ Q)
        | (refine hQ _ ?_; clear hQ Q)
        | refine awp_cond_true rfl ?_
        | refine awp_cond_false rfl ?_
        | refine awp_skip ?_
        | (refine awp_exit ?_; simp only [go_sem, Nat.reduceEqDiff])
        | (refine awp_ret ?_; try simp only [inBlock_ret, andThen_ret])
        | ((first | refine hK _ ?_ | (clear hK K; refine hK _ ?_) | (clear hK K; clear hK K; refine hK _ ?_) | (clear hK K; clear hK K; clear hK K; refine hK _ ?_) | (clear hK K; clear hK K; clear hK K; clear hK K; refine hK _ ?_) | (clear hK K; clear hK K; clear hK K; clear hK K; clear hK K; refine hK _ ?_) | (clear hK K; clear hK K; clear hK K; clear hK K; clear hK K; clear hK K; refine hK _ ?_)); clear hK; clear K)
        | refine And.intro (by first | assumption | omega | trivial | rfl | (simp; done)) ?_
        | (refine awp_cond _ rfl (fun hc => ?_) (fun hc => ?_) <;> (try simp only [Bool.not_eq_true', Bool.not_eq_false'] at hc) <;> (try simp only [hc]))
        | (refine gdW_split (fun hc => ?_) (fun hc => ?_) <;> (try simp only [Bool.not_eq_true', Bool.not_eq_false'] at hc))
        | (refine gdQ_split (fun hc => ?_) (fun hc => ?_) <;> (try simp only [Bool.not_eq_true', Bool.not_eq_false'] at hc)))
      all_goals first | exact end_quiet0 rfl rfl | exact end_quiet hB rfl rfl (by simp)

end Go.Proofs.Ytamoclnnakdiaaa.Abs
