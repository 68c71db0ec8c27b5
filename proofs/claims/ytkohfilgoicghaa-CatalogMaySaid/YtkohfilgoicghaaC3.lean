/-
  The reference's May and Fencing.
  Conditions: none.
-/
import Derived.Test.YtkohfilgoicghaaC2
namespace Go.Proofs.Ytkohfilgoicghaa.Abs
open Go Go.RowKit
set_option linter.unusedVariables false
set_option maxRecDepth 100000
set_option maxHeartbeats 4000000
set_option linter.unusedSimpArgs false

def rightR (u : Bool) (r : Int) : Bool := ((r == 0) && !u) || (u && (r == 1 || r == 2))
def colsR (u : Bool) (k : Int) (n : Int) : Bool := (u && (!(k == 5) || n == 1)) || (!u && n == 0)

def mayR (x : CmdR) : Bool :=
  match usesR x.kind with
  | none => false
  | some u => nameB x.actor && textB x.schema u.schema && textB x.table u.table && textB x.name u.name && textB x.role u.role &&
      rightR u.right x.right && colsR u.cols x.kind x.cols.length && (u.rule || bareR x.rule) && (u.option || !x.option)

theorem refMay_q (x : CmdR) (hx : x.ok) (H : List AObj) : QuietF Go.Proofs.Try.prog 13 [.agg x.cells] H (.bool (mayR x)) := by
  refine ACallF.of hb_13 (acalls_body Try.func13 rfl ?_)
  intro hB hA
  rw [args0_13]
  obtain ⟨h1, h2, h3, h4, h5, h6, h7⟩ := hx
  have hq := fun H => refUses_q x.kind H
  cases hu : usesR x.kind with
  | none =>
    simp only [hu, uses8_none, Option.isSome] at hq
    repeat (first
      | refine awp_seq_k (fun K hK => ?_)
      | refine awp_block ?_
      | (refine awp_region_w (by simp) (fun Q hQ => ?_); simp only [go_sem, Nat.reduceAdd, Nat.reduceMul, Nat.reduceLeDiff, Nat.reduceLT, Nat.reduceEqDiff, Int.reduceToNat, Int.reduceLE, Int.reduceLT])
      | (refine awp_region_q mixed (by kernel_rfl) (by kernel_rfl) rfl (by simp) (fun Q hQ => ?_); simp only [go_sem, Nat.reduceAdd, Nat.reduceMul, Nat.reduceLeDiff, Nat.reduceLT, Nat.reduceEqDiff, Int.reduceToNat, Int.reduceLE, Int.reduceLT])
      | (refine callW_quiet (hq _) ?_; simp only [go_sem, Nat.reduceAdd, Nat.reduceMul, Nat.reduceLeDiff, Nat.reduceLT, Nat.reduceEqDiff, Int.reduceToNat, Int.reduceLE, Int.reduceLT])
      | (refine callQ_quiet (hq _) ?_; simp only [go_sem, Nat.reduceAdd, Nat.reduceMul, Nat.reduceLeDiff, Nat.reduceLT, Nat.reduceEqDiff, Int.reduceToNat, Int.reduceLE, Int.reduceLT])
      | (refine hQ _ _ ?_; clear hQ Q)
      | (refine hQ _ ?_; clear hQ Q)
      | refine awp_cond_true rfl ?_
      | refine awp_cond_false rfl ?_
      | refine awp_skip ?_
      | (refine awp_exit ?_; simp only [go_sem])
      | (refine awp_ret ?_; try simp only [inBlock_ret, andThen_ret])
      | (refine hK _ ?_; clear hK; clear K)
      | (clear hK K; refine hK _ ?_; clear hK; clear K)
      | refine And.intro (by first | assumption | omega | (simp; done)) ?_)
    all_goals
      first | refine end_quiet hB rfl ?_ (by simp) | refine end_quiet0 rfl ?_
      try clear hB hA
      try simp only [go_sem, mayR, hu, *, Bool.true_and, Bool.and_true, Bool.false_and, Bool.and_false, Bool.or_true, Bool.true_or, Bool.false_or, Bool.or_false]
  | some u =>
    obtain ⟨us, ut, un, ur, uc, uu, ui, uo⟩ := u
    simp only [hu, uses8_some, Option.isSome] at hq
    repeat' (first
      | refine awp_seq_k (fun K hK => ?_)
      | refine awp_block ?_
      | (refine awp_region_w (by simp) (fun Q hQ => ?_); simp only [go_sem, Nat.reduceAdd, Nat.reduceMul, Nat.reduceLeDiff, Nat.reduceLT, Nat.reduceEqDiff, Int.reduceToNat, Int.reduceLE, Int.reduceLT])
      | (refine awp_region_q mixed (by kernel_rfl) (by kernel_rfl) rfl (by simp) (fun Q hQ => ?_); simp only [go_sem, Nat.reduceAdd, Nat.reduceMul, Nat.reduceLeDiff, Nat.reduceLT, Nat.reduceEqDiff, Int.reduceToNat, Int.reduceLE, Int.reduceLT])
      | (refine callW_quiet (hq _) ?_; simp only [go_sem, Nat.reduceAdd, Nat.reduceMul, Nat.reduceLeDiff, Nat.reduceLT, Nat.reduceEqDiff, Int.reduceToNat, Int.reduceLE, Int.reduceLT])
      | (refine callQ_quiet (hq _) ?_; simp only [go_sem, Nat.reduceAdd, Nat.reduceMul, Nat.reduceLeDiff, Nat.reduceLT, Nat.reduceEqDiff, Int.reduceToNat, Int.reduceLE, Int.reduceLT])
      | (refine callW_quiet (refName_q x.actor h1 _) ?_; simp only [go_sem, Nat.reduceAdd, Nat.reduceMul, Nat.reduceLeDiff, Nat.reduceLT, Nat.reduceEqDiff, Int.reduceToNat, Int.reduceLE, Int.reduceLT])
      | (refine callQ_quiet (refName_q x.actor h1 _) ?_; simp only [go_sem, Nat.reduceAdd, Nat.reduceMul, Nat.reduceLeDiff, Nat.reduceLT, Nat.reduceEqDiff, Int.reduceToNat, Int.reduceLE, Int.reduceLT])
      | (refine callW_quiet (text_q x.schema h2 _ _) ?_; simp only [go_sem, Nat.reduceAdd, Nat.reduceMul, Nat.reduceLeDiff, Nat.reduceLT, Nat.reduceEqDiff, Int.reduceToNat, Int.reduceLE, Int.reduceLT])
      | (refine callQ_quiet (text_q x.schema h2 _ _) ?_; simp only [go_sem, Nat.reduceAdd, Nat.reduceMul, Nat.reduceLeDiff, Nat.reduceLT, Nat.reduceEqDiff, Int.reduceToNat, Int.reduceLE, Int.reduceLT])
      | (refine callW_quiet (text_q x.table h3 _ _) ?_; simp only [go_sem, Nat.reduceAdd, Nat.reduceMul, Nat.reduceLeDiff, Nat.reduceLT, Nat.reduceEqDiff, Int.reduceToNat, Int.reduceLE, Int.reduceLT])
      | (refine callQ_quiet (text_q x.table h3 _ _) ?_; simp only [go_sem, Nat.reduceAdd, Nat.reduceMul, Nat.reduceLeDiff, Nat.reduceLT, Nat.reduceEqDiff, Int.reduceToNat, Int.reduceLE, Int.reduceLT])
      | (refine callW_quiet (text_q x.name h4 _ _) ?_; simp only [go_sem, Nat.reduceAdd, Nat.reduceMul, Nat.reduceLeDiff, Nat.reduceLT, Nat.reduceEqDiff, Int.reduceToNat, Int.reduceLE, Int.reduceLT])
      | (refine callQ_quiet (text_q x.name h4 _ _) ?_; simp only [go_sem, Nat.reduceAdd, Nat.reduceMul, Nat.reduceLeDiff, Nat.reduceLT, Nat.reduceEqDiff, Int.reduceToNat, Int.reduceLE, Int.reduceLT])
      | (refine callW_quiet (text_q x.role h5 _ _) ?_; simp only [go_sem, Nat.reduceAdd, Nat.reduceMul, Nat.reduceLeDiff, Nat.reduceLT, Nat.reduceEqDiff, Int.reduceToNat, Int.reduceLE, Int.reduceLT])
      | (refine callQ_quiet (text_q x.role h5 _ _) ?_; simp only [go_sem, Nat.reduceAdd, Nat.reduceMul, Nat.reduceLeDiff, Nat.reduceLT, Nat.reduceEqDiff, Int.reduceToNat, Int.reduceLE, Int.reduceLT])
      | (refine callW_quiet (refBare_q x.rule _) ?_; simp only [go_sem, Nat.reduceAdd, Nat.reduceMul, Nat.reduceLeDiff, Nat.reduceLT, Nat.reduceEqDiff, Int.reduceToNat, Int.reduceLE, Int.reduceLT])
      | (refine callQ_quiet (refBare_q x.rule _) ?_; simp only [go_sem, Nat.reduceAdd, Nat.reduceMul, Nat.reduceLeDiff, Nat.reduceLT, Nat.reduceEqDiff, Int.reduceToNat, Int.reduceLE, Int.reduceLT])
      | (refine hQ _ _ ?_; clear hQ Q)
      | (refine hQ _ ?_; clear hQ Q)
      | refine awp_cond_true rfl ?_
      | refine awp_cond_false rfl ?_
      | refine awp_skip ?_
      | (refine awp_exit ?_; simp only [go_sem])
      | (refine awp_ret ?_; try simp only [inBlock_ret, andThen_ret])
      | (refine hK _ ?_; clear hK; clear K)
      | (clear hK K; refine hK _ ?_; clear hK; clear K)
      | refine And.intro (by first | assumption | omega | (simp; done)) ?_
      | (refine awp_cond _ rfl (fun hc => ?_) (fun hc => ?_) <;> (try simp only [Bool.not_eq_true', Bool.not_eq_false'] at hc) <;> (try simp only [hc]))
      | (refine gdW_split (fun hc => ?_) (fun hc => ?_) <;> (try simp only [Bool.not_eq_true', Bool.not_eq_false'] at hc) <;> simp only [go_sem, Nat.reduceAdd, Nat.reduceMul, Nat.reduceLeDiff, Nat.reduceLT, Nat.reduceEqDiff, Int.reduceToNat, Int.reduceLE, Int.reduceLT, hc])
      | (refine gdQ_split (fun hc => ?_) (fun hc => ?_) <;> (try simp only [Bool.not_eq_true', Bool.not_eq_false'] at hc) <;> simp only [go_sem, Nat.reduceAdd, Nat.reduceMul, Nat.reduceLeDiff, Nat.reduceLT, Nat.reduceEqDiff, Int.reduceToNat, Int.reduceLE, Int.reduceLT, hc]))
    all_goals
      first | refine end_quiet hB rfl ?_ (by simp) | refine end_quiet0 rfl ?_
      try clear hB hA
      try simp only [go_sem, mayR, hu, rightR, colsR, Bool.not_true, Bool.not_false, *, Bool.true_and, Bool.and_true, Bool.false_and, Bool.and_false, Bool.or_true, Bool.true_or, Bool.false_or, Bool.or_false]

theorem refFencing_q (x : CmdR) (hx : x.ok) (H : List AObj) : QuietF Go.Proofs.Try.prog 15 [.agg x.cells] H (.bool (mayR x && fencesB x.kind x.rule.kind)) := by
  refine ACallF.of hb_15 (acalls_body Try.func15 rfl ?_)
  intro hB hA
  rw [args0_15]
  repeat' (first
    | refine awp_seq_k (fun K hK => ?_)
    | refine awp_block ?_
    | (refine awp_region_w (by simp) (fun Q hQ => ?_); simp only [go_sem, Nat.reduceAdd, Nat.reduceMul, Nat.reduceLeDiff, Nat.reduceLT, Nat.reduceEqDiff, Int.reduceToNat, Int.reduceLE, Int.reduceLT])
    | (refine awp_region_q mixed (by kernel_rfl) (by kernel_rfl) rfl (by simp) (fun Q hQ => ?_); simp only [go_sem, Nat.reduceAdd, Nat.reduceMul, Nat.reduceLeDiff, Nat.reduceLT, Nat.reduceEqDiff, Int.reduceToNat, Int.reduceLE, Int.reduceLT])
    | (refine callW_quiet (refMay_q x hx _) ?_; simp only [go_sem, Nat.reduceAdd, Nat.reduceMul, Nat.reduceLeDiff, Nat.reduceLT, Nat.reduceEqDiff, Int.reduceToNat, Int.reduceLE, Int.reduceLT])
    | (refine callQ_quiet (refMay_q x hx _) ?_; simp only [go_sem, Nat.reduceAdd, Nat.reduceMul, Nat.reduceLeDiff, Nat.reduceLT, Nat.reduceEqDiff, Int.reduceToNat, Int.reduceLE, Int.reduceLT])
    | (refine hQ _ _ ?_; clear hQ Q)
    | (refine hQ _ ?_; clear hQ Q)
    | refine awp_cond_true rfl ?_
    | refine awp_cond_false rfl ?_
    | refine awp_skip ?_
    | (refine awp_exit ?_; simp only [go_sem])
    | (refine awp_ret ?_; try simp only [inBlock_ret, andThen_ret])
    | (refine hK _ ?_; clear hK; clear K)
    | (clear hK K; refine hK _ ?_; clear hK; clear K)
    | refine And.intro (by first | assumption | omega | (simp; done)) ?_
    | (refine awp_cond _ rfl (fun hc => ?_) (fun hc => ?_) <;> (try simp only [Bool.not_eq_true', Bool.not_eq_false'] at hc) <;> (try simp only [hc]))
    | (refine gdW_split (fun hc => ?_) (fun hc => ?_) <;> (try simp only [Bool.not_eq_true', Bool.not_eq_false'] at hc) <;> simp only [go_sem, Nat.reduceAdd, Nat.reduceMul, Nat.reduceLeDiff, Nat.reduceLT, Nat.reduceEqDiff, Int.reduceToNat, Int.reduceLE, Int.reduceLT, hc])
    | (refine gdQ_split (fun hc => ?_) (fun hc => ?_) <;> (try simp only [Bool.not_eq_true', Bool.not_eq_false'] at hc) <;> simp only [go_sem, Nat.reduceAdd, Nat.reduceMul, Nat.reduceLeDiff, Nat.reduceLT, Nat.reduceEqDiff, Int.reduceToNat, Int.reduceLE, Int.reduceLT, hc]))
  all_goals
    first | refine end_quiet hB rfl ?_ (by simp) | refine end_quiet0 rfl ?_
    try clear hB hA
    try simp only [go_sem, fencesB, Bool.false_eq_true, if_false, if_true, *, Bool.true_and, Bool.and_true, Bool.false_and, Bool.and_false, Bool.or_true, Bool.true_or, Bool.false_or, Bool.or_false]

end Go.Proofs.Ytkohfilgoicghaa.Abs
