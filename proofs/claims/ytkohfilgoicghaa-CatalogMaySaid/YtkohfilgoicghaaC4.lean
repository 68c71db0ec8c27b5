/-
  The law CatalogMay.
  Conditions: none.
-/
import Derived.Test.YtkohfilgoicghaaC3
import Derived.Test.YtkohfilgoicghaaA13
namespace Go.Proofs.Ytkohfilgoicghaa.Abs
open Go Go.RowKit
set_option linter.unusedVariables false
set_option maxRecDepth 100000
set_option maxHeartbeats 4000000
set_option linter.unusedSimpArgs false

theorem field_text (u : Bool) (s : List UInt8) : fieldB u s = textB s u := by
  unfold fieldB textB
  cases s with
  | nil => cases u <;> simp [nameB]
  | cons c t => cases u <;> simp
theorem bare_eq (r : RuleR) : bareB r = bareR r := by
  unfold bareB bareR
  have : (r.name ++ (r.schema ++ (r.table ++ r.key)) == []) = ((r.name == []) && ((r.schema == []) && ((r.table == []) && (r.key == [])))) := by
    cases r.name <;> cases r.schema <;> cases r.table <;> cases r.key <;> rfl
  rw [this]
  ac_rfl
theorem may_eq (x : CmdR) : mayB x = mayR x := by
  have h : x.kind = 1 ∨ x.kind = 2 ∨ x.kind = 3 ∨ x.kind = 4 ∨ x.kind = 5 ∨ x.kind = 6 ∨ x.kind = 7 ∨ x.kind = 8 ∨ x.kind = 9 ∨ x.kind = 10 ∨ x.kind = 11 ∨ x.kind = 12 ∨ x.kind = 13 ∨ x.kind = 14 ∨ x.kind = 15 ∨
    (x.kind ≠ 1 ∧ x.kind ≠ 2 ∧ x.kind ≠ 3 ∧ x.kind ≠ 4 ∧ x.kind ≠ 5 ∧ x.kind ≠ 6 ∧ x.kind ≠ 7 ∧ x.kind ≠ 8 ∧ x.kind ≠ 9 ∧ x.kind ≠ 10 ∧ x.kind ≠ 11 ∧ x.kind ≠ 12 ∧ x.kind ≠ 13 ∧ x.kind ≠ 14 ∧ x.kind ≠ 15) := by omega
  rcases h with h | h | h | h | h | h | h | h | h | h | h | h | h | h | h | ⟨g1, g2, g3, g4, g5, g6, g7, g8, g9, g10, g11, g12, g13, g14, g15⟩
  case' inr.inr.inr.inr.inr.inr.inr.inr.inr.inr.inr.inr.inr.inr.inr =>
    have a1 : usesL x.kind = none := by simp [usesL, *]
    have a2 : usesR x.kind = none := by simp [usesR, *]
    simp [mayB, mayR, a1, a2]
  all_goals
    simp only [mayB, mayR, usesL, usesR, fieldsB, restB, rightR, colsR, h, field_text, bare_eq, Int.reduceBEq, Bool.false_eq_true, if_false, if_true, Option.isSome, Bool.true_and, Bool.and_true, Bool.false_and, Bool.and_false, Bool.or_true, Bool.true_or, Bool.false_or, Bool.or_false, Bool.not_true, Bool.not_false]
    try ac_rfl

def rule0 : RuleR := ⟨[], 0, [], 0, 0, [], [], []⟩
def one0 : CmdR := ⟨1, [114, 111, 111, 116], [115], [], [], [], [], rule0, 0, false⟩
def one1 : CmdR := ⟨1, [114, 111, 111, 116], [115], [116], [], [], [], rule0, 0, false⟩
def two0 : CmdR := ⟨2, [97], [115], [], [], [], [], rule0, 0, false⟩

theorem rule0_ok : rule0.ok := by simp [RuleR.ok, rule0, tx]
theorem one0_ok : one0.ok := by simp [CmdR.ok, one0, tx, rule0_ok]
theorem one1_ok : one1.ok := by simp [CmdR.ok, one1, tx, rule0_ok]
theorem two0_ok : two0.ok := by simp [CmdR.ok, two0, tx, rule0_ok]

def nilCells (k : Int) (a s t : List UInt8) : List AV :=
  [.int .i64 k, .str a, .str s, .str t, .str [], .str [], .nils, .str [], .int .i64 0, .nils, .int .i64 0, .int .i64 0, .str [], .str [], .str [], .int .i64 0, .bool false]

theorem le_cells (k : Int) (a s t : List UInt8) : leArgs [.agg (nilCells k a s t)] [.agg (CmdR.mk k a s t [] [] [] rule0 0 false).cells] :=
  ⟨leA_agg ⟨leC_refl _, leC_refl _, leC_refl _, leC_refl _, leC_refl _, leC_refl _, leC_nil, leC_refl _, leC_refl _, leC_nil, leC_refl _, leC_refl _, leC_refl _, leC_refl _, leC_refl _, leC_refl _, leC_refl _, trivial⟩, trivial⟩

theorem one_q (H : List AObj) : QuietF Go.Proofs.Try.prog 33 [] H (.agg (nilCells 1 [114, 111, 111, 116] [115] [])) := by
  refine ACallF.of hb_33 (acalls_body Try.func33 rfl ?_)
  intro hB hA
  rw [args0_33]
  repeat' (first
    | refine awp_seq_k (fun K hK => ?_)
    | refine awp_block ?_
    | (refine awp_region_w (by simp) (fun Q hQ => ?_); simp only [go_sem, Nat.reduceAdd, Nat.reduceMul, Nat.reduceLeDiff, Nat.reduceLT, Nat.reduceEqDiff, Int.reduceToNat, Int.reduceLE, Int.reduceLT])
    | (refine awp_region_q mixed (by kernel_rfl) (by kernel_rfl) rfl (by simp) (fun Q hQ => ?_); simp only [go_sem, Nat.reduceAdd, Nat.reduceMul, Nat.reduceLeDiff, Nat.reduceLT, Nat.reduceEqDiff, Int.reduceToNat, Int.reduceLE, Int.reduceLT])
    | (refine hQ _ _ ?_; clear hQ Q)
    | (refine hQ _ ?_; clear hQ Q)
    | refine awp_cond_true rfl ?_
    | refine awp_cond_false rfl ?_
    | refine awp_skip ?_
    | (refine awp_exit ?_; simp only [go_sem])
    | (refine awp_ret ?_; try simp only [inBlock_ret, andThen_ret])
    | (refine hK _ ?_; clear hK; clear K)
    | (clear hK K; refine hK _ ?_; clear hK; clear K)
    | refine And.intro (by first | assumption | omega | (simp; done)) ?_
    | (refine awp_cond _ rfl (fun hc => ?_) (fun hc => ?_) <;> (try simp only [Bool.not_eq_true', Bool.not_eq_false'] at hc) <;> (try simp only [hc]))
    | (refine gdW_split (fun hc => ?_) (fun hc => ?_) <;> (try simp only [Bool.not_eq_true', Bool.not_eq_false'] at hc) <;> simp only [go_sem, Nat.reduceAdd, Nat.reduceMul, Nat.reduceLeDiff, Nat.reduceLT, Nat.reduceEqDiff, Int.reduceToNat, Int.reduceLE, Int.reduceLT, hc])
    | (refine gdQ_split (fun hc => ?_) (fun hc => ?_) <;> (try simp only [Bool.not_eq_true', Bool.not_eq_false'] at hc) <;> simp only [go_sem, Nat.reduceAdd, Nat.reduceMul, Nat.reduceLeDiff, Nat.reduceLT, Nat.reduceEqDiff, Int.reduceToNat, Int.reduceLE, Int.reduceLT, hc]))
  exact end_quiet hB (by simp only [go_sem]; rfl) rfl (by simp [nilCells])

theorem may1_q (H : List AObj) : QuietF Go.Proofs.Try.prog 12 [.agg (nilCells 1 [114, 111, 111, 116] [115] [])] H (.bool true) :=
  ((may_q one0 one0_ok H).le (le_cells _ _ _ _)).to (congrArg AV.bool (by decide +kernel))
theorem may2_q (H : List AObj) : QuietF Go.Proofs.Try.prog 12 [.agg (nilCells 1 [114, 111, 111, 116] [115] [116])] H (.bool false) :=
  ((may_q one1 one1_ok H).le (le_cells _ _ _ _)).to (congrArg AV.bool (by decide +kernel))
theorem may3_q (H : List AObj) : QuietF Go.Proofs.Try.prog 14 [.agg (nilCells 1 [114, 111, 111, 116] [115] [])] H (.bool false) :=
  ((fencing_q one0 one0_ok H).le (le_cells _ _ _ _)).to (congrArg AV.bool (by decide +kernel))
theorem may4_q (H : List AObj) : QuietF Go.Proofs.Try.prog 14 [.agg (nilCells 2 [97] [115] [])] H (.bool true) :=
  ((fencing_q two0 two0_ok H).le (le_cells _ _ _ _)).to (congrArg AV.bool (by decide +kernel))

theorem lawMay_q (H : List AObj) : QuietF Go.Proofs.Try.prog 11 [] H (.bool true) := by
  refine ACallF.of hb_11 (acalls_body Try.func11 rfl ?_)
  intro hB hA
  rw [args0_11]
  repeat' (first
    | refine awp_seq_k (fun K hK => ?_)
    | refine awp_block ?_
    | (refine awp_region_w (by simp) (fun Q hQ => ?_); simp only [go_sem, Nat.reduceAdd, Nat.reduceMul, Nat.reduceLeDiff, Nat.reduceLT, Nat.reduceEqDiff, Int.reduceToNat, Int.reduceLE, Int.reduceLT, nilCells])
    | (refine awp_region_q mixed (by kernel_rfl) (by kernel_rfl) rfl (by simp) (fun Q hQ => ?_); simp only [go_sem, Nat.reduceAdd, Nat.reduceMul, Nat.reduceLeDiff, Nat.reduceLT, Nat.reduceEqDiff, Int.reduceToNat, Int.reduceLE, Int.reduceLT, nilCells])
    | (refine callW_quiet (one_q _) ?_; simp only [go_sem, Nat.reduceAdd, Nat.reduceMul, Nat.reduceLeDiff, Nat.reduceLT, Nat.reduceEqDiff, Int.reduceToNat, Int.reduceLE, Int.reduceLT, nilCells])
    | (refine callQ_quiet (one_q _) ?_; simp only [go_sem, Nat.reduceAdd, Nat.reduceMul, Nat.reduceLeDiff, Nat.reduceLT, Nat.reduceEqDiff, Int.reduceToNat, Int.reduceLE, Int.reduceLT, nilCells])
    | (refine callW_quiet (may1_q _) ?_; simp only [go_sem, Nat.reduceAdd, Nat.reduceMul, Nat.reduceLeDiff, Nat.reduceLT, Nat.reduceEqDiff, Int.reduceToNat, Int.reduceLE, Int.reduceLT, nilCells])
    | (refine callQ_quiet (may1_q _) ?_; simp only [go_sem, Nat.reduceAdd, Nat.reduceMul, Nat.reduceLeDiff, Nat.reduceLT, Nat.reduceEqDiff, Int.reduceToNat, Int.reduceLE, Int.reduceLT, nilCells])
    | (refine callW_quiet (may2_q _) ?_; simp only [go_sem, Nat.reduceAdd, Nat.reduceMul, Nat.reduceLeDiff, Nat.reduceLT, Nat.reduceEqDiff, Int.reduceToNat, Int.reduceLE, Int.reduceLT, nilCells])
    | (refine callQ_quiet (may2_q _) ?_; simp only [go_sem, Nat.reduceAdd, Nat.reduceMul, Nat.reduceLeDiff, Nat.reduceLT, Nat.reduceEqDiff, Int.reduceToNat, Int.reduceLE, Int.reduceLT, nilCells])
    | (refine callW_quiet (may3_q _) ?_; simp only [go_sem, Nat.reduceAdd, Nat.reduceMul, Nat.reduceLeDiff, Nat.reduceLT, Nat.reduceEqDiff, Int.reduceToNat, Int.reduceLE, Int.reduceLT, nilCells])
    | (refine callQ_quiet (may3_q _) ?_; simp only [go_sem, Nat.reduceAdd, Nat.reduceMul, Nat.reduceLeDiff, Nat.reduceLT, Nat.reduceEqDiff, Int.reduceToNat, Int.reduceLE, Int.reduceLT, nilCells])
    | (refine callW_quiet (may4_q _) ?_; simp only [go_sem, Nat.reduceAdd, Nat.reduceMul, Nat.reduceLeDiff, Nat.reduceLT, Nat.reduceEqDiff, Int.reduceToNat, Int.reduceLE, Int.reduceLT, nilCells])
    | (refine callQ_quiet (may4_q _) ?_; simp only [go_sem, Nat.reduceAdd, Nat.reduceMul, Nat.reduceLeDiff, Nat.reduceLT, Nat.reduceEqDiff, Int.reduceToNat, Int.reduceLE, Int.reduceLT, nilCells])
    | (refine hQ _ _ ?_; clear hQ Q)
    | (refine hQ _ ?_; clear hQ Q)
    | refine awp_cond_true rfl ?_
    | refine awp_cond_false rfl ?_
    | refine awp_skip ?_
    | (refine awp_exit ?_; simp only [go_sem])
    | (refine awp_ret ?_; try simp only [inBlock_ret, andThen_ret])
    | (refine hK _ ?_; clear hK; clear K)
    | (clear hK K; refine hK _ ?_; clear hK; clear K)
    | refine And.intro (by first | assumption | omega | (simp; done)) ?_
    | (refine awp_cond _ rfl (fun hc => ?_) (fun hc => ?_) <;> (try simp only [Bool.not_eq_true', Bool.not_eq_false'] at hc) <;> (try simp only [hc]))
    | (refine gdW_split (fun hc => ?_) (fun hc => ?_) <;> (try simp only [Bool.not_eq_true', Bool.not_eq_false'] at hc) <;> simp only [go_sem, Nat.reduceAdd, Nat.reduceMul, Nat.reduceLeDiff, Nat.reduceLT, Nat.reduceEqDiff, Int.reduceToNat, Int.reduceLE, Int.reduceLT, nilCells, hc])
    | (refine gdQ_split (fun hc => ?_) (fun hc => ?_) <;> (try simp only [Bool.not_eq_true', Bool.not_eq_false'] at hc) <;> simp only [go_sem, Nat.reduceAdd, Nat.reduceMul, Nat.reduceLeDiff, Nat.reduceLT, Nat.reduceEqDiff, Int.reduceToNat, Int.reduceLE, Int.reduceLT, nilCells, hc]))
  all_goals
    first | refine end_quiet hB rfl ?_ (by simp) | refine end_quiet0 rfl ?_
    try clear hB hA
    try simp only [go_sem, eq_self, *, Bool.true_and, Bool.and_true, Bool.false_and, Bool.and_false, Bool.or_true, Bool.true_or, Bool.false_or, Bool.or_false]

theorem big_q (x : CmdR) (H : List AObj) : QuietF Go.Proofs.Try.prog 10 [.agg x.cells] H (.bool (decide (1000 < (x.cols.length : Int)) || decide (1000 < (x.rule.cols.length : Int)))) := by
  refine ACallF.of hb_10 (acalls_body Try.func10 rfl ?_)
  intro hB hA
  rw [args0_10]
  repeat' (first
    | refine awp_seq_k (fun K hK => ?_)
    | refine awp_block ?_
    | (refine awp_region_w (by simp) (fun Q hQ => ?_); simp only [go_sem, Nat.reduceAdd, Nat.reduceMul, Nat.reduceLeDiff, Nat.reduceLT, Nat.reduceEqDiff, Int.reduceToNat, Int.reduceLE, Int.reduceLT])
    | (refine awp_region_q mixed (by kernel_rfl) (by kernel_rfl) rfl (by simp) (fun Q hQ => ?_); simp only [go_sem, Nat.reduceAdd, Nat.reduceMul, Nat.reduceLeDiff, Nat.reduceLT, Nat.reduceEqDiff, Int.reduceToNat, Int.reduceLE, Int.reduceLT])
    | (refine hQ _ _ ?_; clear hQ Q)
    | (refine hQ _ ?_; clear hQ Q)
    | refine awp_cond_true rfl ?_
    | refine awp_cond_false rfl ?_
    | refine awp_skip ?_
    | (refine awp_exit ?_; simp only [go_sem])
    | (refine awp_ret ?_; try simp only [inBlock_ret, andThen_ret])
    | (refine hK _ ?_; clear hK; clear K)
    | (clear hK K; refine hK _ ?_; clear hK; clear K)
    | refine And.intro (by first | assumption | omega | (simp; done)) ?_
    | (refine awp_cond _ rfl (fun hc => ?_) (fun hc => ?_) <;> (try simp only [Bool.not_eq_true', Bool.not_eq_false'] at hc) <;> (try simp only [hc]))
    | (refine gdW_split (fun hc => ?_) (fun hc => ?_) <;> (try simp only [Bool.not_eq_true', Bool.not_eq_false'] at hc) <;> simp only [go_sem, Nat.reduceAdd, Nat.reduceMul, Nat.reduceLeDiff, Nat.reduceLT, Nat.reduceEqDiff, Int.reduceToNat, Int.reduceLE, Int.reduceLT, hc])
    | (refine gdQ_split (fun hc => ?_) (fun hc => ?_) <;> (try simp only [Bool.not_eq_true', Bool.not_eq_false'] at hc) <;> simp only [go_sem, Nat.reduceAdd, Nat.reduceMul, Nat.reduceLeDiff, Nat.reduceLT, Nat.reduceEqDiff, Int.reduceToNat, Int.reduceLE, Int.reduceLT, hc]))
  all_goals
    first | refine end_quiet hB rfl ?_ (by simp) | refine end_quiet0 rfl ?_
    try clear hB hA
    try simp only [go_sem, eq_self, *, Bool.true_and, Bool.and_true, Bool.false_and, Bool.and_false, Bool.or_true, Bool.true_or, Bool.false_or, Bool.or_false]

theorem catalogMay_q (x : CmdR) (hx : x.ok) (H : List AObj) : QuietF Go.Proofs.Try.prog 3 [.agg x.cells] H (.bool true) := by
  refine ACallF.of hb_3 (acalls_body Try.func3 rfl ?_)
  intro hB hA
  rw [args0_3]
  repeat' (first
    | refine awp_seq_k (fun K hK => ?_)
    | refine awp_block ?_
    | (refine awp_region_w (by simp) (fun Q hQ => ?_); simp only [go_sem, Nat.reduceAdd, Nat.reduceMul, Nat.reduceLeDiff, Nat.reduceLT, Nat.reduceEqDiff, Int.reduceToNat, Int.reduceLE, Int.reduceLT, may_eq, beq_self_eq_true])
    | (refine awp_region_q mixed (by kernel_rfl) (by kernel_rfl) rfl (by simp) (fun Q hQ => ?_); simp only [go_sem, Nat.reduceAdd, Nat.reduceMul, Nat.reduceLeDiff, Nat.reduceLT, Nat.reduceEqDiff, Int.reduceToNat, Int.reduceLE, Int.reduceLT, may_eq, beq_self_eq_true])
    | (refine callW_quiet (lawMay_q _) ?_; simp only [go_sem, Nat.reduceAdd, Nat.reduceMul, Nat.reduceLeDiff, Nat.reduceLT, Nat.reduceEqDiff, Int.reduceToNat, Int.reduceLE, Int.reduceLT, may_eq, beq_self_eq_true])
    | (refine callQ_quiet (lawMay_q _) ?_; simp only [go_sem, Nat.reduceAdd, Nat.reduceMul, Nat.reduceLeDiff, Nat.reduceLT, Nat.reduceEqDiff, Int.reduceToNat, Int.reduceLE, Int.reduceLT, may_eq, beq_self_eq_true])
    | (refine callW_quiet (big_q x _) ?_; simp only [go_sem, Nat.reduceAdd, Nat.reduceMul, Nat.reduceLeDiff, Nat.reduceLT, Nat.reduceEqDiff, Int.reduceToNat, Int.reduceLE, Int.reduceLT, may_eq, beq_self_eq_true])
    | (refine callQ_quiet (big_q x _) ?_; simp only [go_sem, Nat.reduceAdd, Nat.reduceMul, Nat.reduceLeDiff, Nat.reduceLT, Nat.reduceEqDiff, Int.reduceToNat, Int.reduceLE, Int.reduceLT, may_eq, beq_self_eq_true])
    | (refine callW_quiet (may_q x hx _) ?_; simp only [go_sem, Nat.reduceAdd, Nat.reduceMul, Nat.reduceLeDiff, Nat.reduceLT, Nat.reduceEqDiff, Int.reduceToNat, Int.reduceLE, Int.reduceLT, may_eq, beq_self_eq_true])
    | (refine callQ_quiet (may_q x hx _) ?_; simp only [go_sem, Nat.reduceAdd, Nat.reduceMul, Nat.reduceLeDiff, Nat.reduceLT, Nat.reduceEqDiff, Int.reduceToNat, Int.reduceLE, Int.reduceLT, may_eq, beq_self_eq_true])
    | (refine callW_quiet (refMay_q x hx _) ?_; simp only [go_sem, Nat.reduceAdd, Nat.reduceMul, Nat.reduceLeDiff, Nat.reduceLT, Nat.reduceEqDiff, Int.reduceToNat, Int.reduceLE, Int.reduceLT, may_eq, beq_self_eq_true])
    | (refine callQ_quiet (refMay_q x hx _) ?_; simp only [go_sem, Nat.reduceAdd, Nat.reduceMul, Nat.reduceLeDiff, Nat.reduceLT, Nat.reduceEqDiff, Int.reduceToNat, Int.reduceLE, Int.reduceLT, may_eq, beq_self_eq_true])
    | (refine callW_quiet (fencing_q x hx _) ?_; simp only [go_sem, Nat.reduceAdd, Nat.reduceMul, Nat.reduceLeDiff, Nat.reduceLT, Nat.reduceEqDiff, Int.reduceToNat, Int.reduceLE, Int.reduceLT, may_eq, beq_self_eq_true])
    | (refine callQ_quiet (fencing_q x hx _) ?_; simp only [go_sem, Nat.reduceAdd, Nat.reduceMul, Nat.reduceLeDiff, Nat.reduceLT, Nat.reduceEqDiff, Int.reduceToNat, Int.reduceLE, Int.reduceLT, may_eq, beq_self_eq_true])
    | (refine callW_quiet (refFencing_q x hx _) ?_; simp only [go_sem, Nat.reduceAdd, Nat.reduceMul, Nat.reduceLeDiff, Nat.reduceLT, Nat.reduceEqDiff, Int.reduceToNat, Int.reduceLE, Int.reduceLT, may_eq, beq_self_eq_true])
    | (refine callQ_quiet (refFencing_q x hx _) ?_; simp only [go_sem, Nat.reduceAdd, Nat.reduceMul, Nat.reduceLeDiff, Nat.reduceLT, Nat.reduceEqDiff, Int.reduceToNat, Int.reduceLE, Int.reduceLT, may_eq, beq_self_eq_true])
    | (refine hQ _ _ ?_; clear hQ Q)
    | (refine hQ _ ?_; clear hQ Q)
    | refine awp_cond_true rfl ?_
    | refine awp_cond_false rfl ?_
    | refine awp_skip ?_
    | (refine awp_exit ?_; simp only [go_sem])
    | (refine awp_ret ?_; try simp only [inBlock_ret, andThen_ret])
    | (refine hK _ ?_; clear hK; clear K)
    | (clear hK K; refine hK _ ?_; clear hK; clear K)
    | refine And.intro (by first | assumption | omega | (simp; done)) ?_
    | (refine awp_cond _ rfl (fun hc => ?_) (fun hc => ?_) <;> (try simp only [Bool.not_eq_true', Bool.not_eq_false'] at hc) <;> (try simp only [hc]))
    | (refine gdW_split (fun hc => ?_) (fun hc => ?_) <;> (try simp only [Bool.not_eq_true', Bool.not_eq_false'] at hc) <;> simp only [go_sem, Nat.reduceAdd, Nat.reduceMul, Nat.reduceLeDiff, Nat.reduceLT, Nat.reduceEqDiff, Int.reduceToNat, Int.reduceLE, Int.reduceLT, may_eq, beq_self_eq_true, hc])
    | (refine gdQ_split (fun hc => ?_) (fun hc => ?_) <;> (try simp only [Bool.not_eq_true', Bool.not_eq_false'] at hc) <;> simp only [go_sem, Nat.reduceAdd, Nat.reduceMul, Nat.reduceLeDiff, Nat.reduceLT, Nat.reduceEqDiff, Int.reduceToNat, Int.reduceLE, Int.reduceLT, may_eq, beq_self_eq_true, hc]))
  all_goals
    first | refine end_quiet hB rfl ?_ (by simp) | refine end_quiet0 rfl ?_
    try clear hB hA
    try simp only [go_sem, eq_self, *, Bool.true_and, Bool.and_true, Bool.false_and, Bool.and_false, Bool.or_true, Bool.true_or, Bool.false_or, Bool.or_false]

end Go.Proofs.Ytkohfilgoicghaa.Abs
