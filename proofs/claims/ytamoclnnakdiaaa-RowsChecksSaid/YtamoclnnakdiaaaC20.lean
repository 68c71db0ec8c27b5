/-
  rows.Turn.
  Conditions: none.
-/
import Derived.Test.YtamoclnnakdiaaaC19
namespace Go.Proofs.Ytamoclnnakdiaaa.Abs
open Go Go.RowKit
set_option linter.unusedVariables false
set_option maxRecDepth 100000
set_option maxHeartbeats 4000000
set_option linter.unusedSimpArgs false

def tabOf (l : List ColR) : TableR := ⟨[], [], [], l, []⟩
theorem tabOf_fit {l : List ColR} (h1 : ∀ c, c ∈ l → tx c.name) (h2 : l.length ≤ 10000000) : (tabOf l).fit :=
  ⟨by simp [tabOf, tx], by simp [tabOf, tx], by simp [tabOf, tx], h1, h2, by simp [tabOf], by simp [tabOf]⟩

theorem rowsMayColumns_q (l : List ColR) (h1 : ∀ c, c ∈ l → tx c.name) (h2 : l.length ≤ 10000000) (H : List AObj) : QuietF Go.Proofs.Try.prog 42 [.fz (l.map ColR.av)] H (.bool (aloneB (tabOf l))) := by
  refine ACallF.of hb_42 (acalls_body Try.func42 rfl ?_)
  intro hB hA
  rw [args0_42]
  have hck : ∀ H, QuietF Go.Proofs.Try.prog 12 [.agg [.str [], .str [], .str [], .fz (l.map ColR.av), .nils]] H (.int .i64 (aloneE (tabOf l))) := fun H =>
    (rowsCheck_q (tabOf l) (tabOf_fit h1 h2) H).le ⟨leA_agg ⟨leC_refl _, leC_refl _, leC_refl _, leC_refl _, leC_nil, trivial⟩, trivial⟩
  cases hb : aloneB (tabOf l) with
  | true =>
    have hr : aloneE (tabOf l) = 0 := by simp [aloneE, hb]
    repeat' (first
      | ((with_reducible first | refine isWL ?_ | refine isGW ?_ | refine isWQ ?_ | refine isGQ ?_); (first | simp only [go_sem, Nat.reduceAdd, Nat.reduceMul, Nat.reduceLeDiff, Nat.reduceLT, Nat.reduceEqDiff, Int.reduceToNat, Int.reduceLE, Int.reduceLT, List.forall_mem_cons, List.not_mem_nil, false_implies, implies_true, hr, Int.reduceBEq, hc] | simp only [go_sem, Nat.reduceAdd, Nat.reduceMul, Nat.reduceLeDiff, Nat.reduceLT, Nat.reduceEqDiff, Int.reduceToNat, Int.reduceLE, Int.reduceLT, List.forall_mem_cons, List.not_mem_nil, false_implies, implies_true, hr, Int.reduceBEq]))
      | refine awp_seq_k (fun K hK => ?_)
      | refine awp_block ?_
      | refine awp_region_w (by first | (simp; done) | assumption | (simp; omega)) (fun Q hQ => ?_)
      | refine awp_region_q mixed (by kernel_rfl) (by kernel_rfl) rfl (by first | (simp; done) | assumption | (simp; omega)) (fun Q hQ => ?_)
      | refine callW_quiet (hck _) ?_
      | refine callQ_quiet (hck _) ?_
      | refine Both.mk ?_ ?_
      | (refine hQ _ _ ?_; clear hQ Q)
      | (refine hQ _ ?_; clear hQ Q)
      | refine awp_cond_true rfl ?_
      | refine awp_cond_false rfl ?_
      | refine awp_skip ?_
      | (refine awp_exit ?_; simp only [go_sem, Nat.reduceEqDiff])
      | (refine awp_ret ?_; try simp only [inBlock_ret, andThen_ret])
      | ((first | refine hK _ ?_ | (clear hK K; refine hK _ ?_) | (clear hK K; clear hK K; refine hK _ ?_) | (clear hK K; clear hK K; clear hK K; refine hK _ ?_) | (clear hK K; clear hK K; clear hK K; clear hK K; refine hK _ ?_) | (clear hK K; clear hK K; clear hK K; clear hK K; clear hK K; refine hK _ ?_) | (clear hK K; clear hK K; clear hK K; clear hK K; clear hK K; clear hK K; refine hK _ ?_)); clear hK; clear K)
      | refine And.intro (by first | assumption | omega | trivial | rfl | (simp; done)) ?_
      | (refine awp_cond _ rfl (fun hc => ?_) (fun hc => ?_) <;> (try simp only [Bool.not_eq_true', Bool.not_eq_false'] at hc) <;> (try simp only [hc]))
      | (refine gdW_split (fun hc => ?_) (fun hc => ?_) <;> (try simp only [Bool.not_eq_true', Bool.not_eq_false'] at hc))
      | (refine gdQ_split (fun hc => ?_) (fun hc => ?_) <;> (try simp only [Bool.not_eq_true', Bool.not_eq_false'] at hc)))
    first | exact end_quiet0 rfl rfl | exact end_quiet hB rfl rfl (by simp)
  | false =>
    have hr : aloneE (tabOf l) = 1 := by simp [aloneE, hb]
    repeat' (first
      | ((with_reducible first | refine isWL ?_ | refine isGW ?_ | refine isWQ ?_ | refine isGQ ?_); (first | simp only [go_sem, Nat.reduceAdd, Nat.reduceMul, Nat.reduceLeDiff, Nat.reduceLT, Nat.reduceEqDiff, Int.reduceToNat, Int.reduceLE, Int.reduceLT, List.forall_mem_cons, List.not_mem_nil, false_implies, implies_true, hr, Int.reduceBEq, hc] | simp only [go_sem, Nat.reduceAdd, Nat.reduceMul, Nat.reduceLeDiff, Nat.reduceLT, Nat.reduceEqDiff, Int.reduceToNat, Int.reduceLE, Int.reduceLT, List.forall_mem_cons, List.not_mem_nil, false_implies, implies_true, hr, Int.reduceBEq]))
      | refine awp_seq_k (fun K hK => ?_)
      | refine awp_block ?_
      | refine awp_region_w (by first | (simp; done) | assumption | (simp; omega)) (fun Q hQ => ?_)
      | refine awp_region_q mixed (by kernel_rfl) (by kernel_rfl) rfl (by first | (simp; done) | assumption | (simp; omega)) (fun Q hQ => ?_)
      | refine callW_quiet (hck _) ?_
      | refine callQ_quiet (hck _) ?_
      | refine Both.mk ?_ ?_
      | (refine hQ _ _ ?_; clear hQ Q)
      | (refine hQ _ ?_; clear hQ Q)
      | refine awp_cond_true rfl ?_
      | refine awp_cond_false rfl ?_
      | refine awp_skip ?_
      | (refine awp_exit ?_; simp only [go_sem, Nat.reduceEqDiff])
      | (refine awp_ret ?_; try simp only [inBlock_ret, andThen_ret])
      | ((first | refine hK _ ?_ | (clear hK K; refine hK _ ?_) | (clear hK K; clear hK K; refine hK _ ?_) | (clear hK K; clear hK K; clear hK K; refine hK _ ?_) | (clear hK K; clear hK K; clear hK K; clear hK K; refine hK _ ?_) | (clear hK K; clear hK K; clear hK K; clear hK K; clear hK K; refine hK _ ?_) | (clear hK K; clear hK K; clear hK K; clear hK K; clear hK K; clear hK K; refine hK _ ?_)); clear hK; clear K)
      | refine And.intro (by first | assumption | omega | trivial | rfl | (simp; done)) ?_
      | (refine awp_cond _ rfl (fun hc => ?_) (fun hc => ?_) <;> (try simp only [Bool.not_eq_true', Bool.not_eq_false'] at hc) <;> (try simp only [hc]))
      | (refine gdW_split (fun hc => ?_) (fun hc => ?_) <;> (try simp only [Bool.not_eq_true', Bool.not_eq_false'] at hc))
      | (refine gdQ_split (fun hc => ?_) (fun hc => ?_) <;> (try simp only [Bool.not_eq_true', Bool.not_eq_false'] at hc)))
    first | exact end_quiet0 rfl rfl | exact end_quiet hB rfl rfl (by simp)

/-- A column's value, out of a row of other columns. -/
def turn1 (l : List ColR) (row : List ValR) (c : ColR) : ValR :=
  if decide (0 ≤ idxOf (fun d => d.name == c.name) l) && (kindAt l (idxOf (fun d => d.name == c.name) l) == c.kind) then valOf l row c.name else ⟨1, 0, []⟩

def turnV (l to : List ColR) (row : List ValR) : List ValR × Int :=
  if aloneB (tabOf l) = true then
    (if aloneB (tabOf to) = true then
      (if allP formP l row = true then (to.map (turn1 l row), 0) else ([], 100))
    else ([], 1))
  else ([], 1)

def turnT (H : List AObj) (r : List ValR × Int) : AV := .tuple [.sl H.length r.1.length 0 r.1.length, .int .i64 r.2]

theorem rowsTurn_n (l to : List ColR) (row : List ValR) (h1 : ∀ c, c ∈ l → tx c.name) (h2 : l.length ≤ 10000000) (h3 : ∀ c, c ∈ to → tx c.name) (h4 : to.length ≤ 10000000) (H : List AObj) :
    NewF Go.Proofs.Try.prog 19 [.fz (l.map ColR.av), .fz (to.map ColR.av), .fz (row.map ValR.av)] H (turnT H (turnV l to row)) [valObj (turnV l to row).1] := by
  refine ACallF.of hb_19 (acalls_body Try.func19 rfl ?_)
  intro hB hA
  rw [args0_19]
  cases ha : aloneB (tabOf l) with
  | false =>
    have hv : turnV l to row = ([], 1) := by simp [turnV, ha]
    rw [hv]
    repeat' (first
      | ((with_reducible first | refine isWL ?_ | refine isGW ?_ | refine isWQ ?_ | refine isGQ ?_); (first | simp only [go_sem, Nat.reduceAdd, Nat.reduceMul, Nat.reduceLeDiff, Nat.reduceLT, Nat.reduceEqDiff, Int.reduceToNat, Int.reduceLE, Int.reduceLT, List.forall_mem_cons, List.not_mem_nil, false_implies, implies_true, ha, Bool.not_false, hc] | simp only [go_sem, Nat.reduceAdd, Nat.reduceMul, Nat.reduceLeDiff, Nat.reduceLT, Nat.reduceEqDiff, Int.reduceToNat, Int.reduceLE, Int.reduceLT, List.forall_mem_cons, List.not_mem_nil, false_implies, implies_true, ha, Bool.not_false]))
      | refine awp_seq_k (fun K hK => ?_)
      | refine awp_block ?_
      | refine awp_region_w (by first | (simp; done) | assumption | (simp; omega)) (fun Q hQ => ?_)
      | refine awp_region_q mixed (by kernel_rfl) (by kernel_rfl) rfl (by first | (simp; done) | assumption | (simp; omega)) (fun Q hQ => ?_)
      | refine callW_quiet (rowsMayColumns_q l h1 h2 _) ?_
      | refine callQ_quiet (rowsMayColumns_q l h1 h2 _) ?_
      | refine Both.mk ?_ ?_
      | (refine hQ _ _ ?_; clear hQ Q)
      | (refine hQ _ ?_; clear hQ Q)
      | refine awp_cond_true rfl ?_
      | refine awp_cond_false rfl ?_
      | refine awp_skip ?_
      | (refine awp_exit ?_; simp only [go_sem, Nat.reduceEqDiff])
      | (refine awp_ret ?_; try simp only [inBlock_ret, andThen_ret])
      | ((first | refine hK _ ?_ | (clear hK K; refine hK _ ?_) | (clear hK K; clear hK K; refine hK _ ?_) | (clear hK K; clear hK K; clear hK K; refine hK _ ?_) | (clear hK K; clear hK K; clear hK K; clear hK K; refine hK _ ?_) | (clear hK K; clear hK K; clear hK K; clear hK K; clear hK K; refine hK _ ?_) | (clear hK K; clear hK K; clear hK K; clear hK K; clear hK K; clear hK K; refine hK _ ?_)); clear hK; clear K)
      | refine And.intro (by first | assumption | omega | trivial | rfl | (simp; done)) ?_
      | (refine awp_cond _ rfl (fun hc => ?_) (fun hc => ?_) <;> (try simp only [Bool.not_eq_true', Bool.not_eq_false'] at hc) <;> (try simp only [hc]))
      | (refine gdW_split (fun hc => ?_) (fun hc => ?_) <;> (try simp only [Bool.not_eq_true', Bool.not_eq_false'] at hc))
      | (refine gdQ_split (fun hc => ?_) (fun hc => ?_) <;> (try simp only [Bool.not_eq_true', Bool.not_eq_false'] at hc)))
    exact end_none0 hB (by first | (simp only [go_sem]; done) | (simp only [go_sem]; rfl) | rfl) (by simp)
  | true =>
    cases hb : aloneB (tabOf to) with
    | false =>
      have hv : turnV l to row = ([], 1) := by simp [turnV, ha, hb]
      rw [hv]
      repeat' (first
        | ((with_reducible first | refine isWL ?_ | refine isGW ?_ | refine isWQ ?_ | refine isGQ ?_); (first | simp only [go_sem, Nat.reduceAdd, Nat.reduceMul, Nat.reduceLeDiff, Nat.reduceLT, Nat.reduceEqDiff, Int.reduceToNat, Int.reduceLE, Int.reduceLT, List.forall_mem_cons, List.not_mem_nil, false_implies, implies_true, ha, hb, Bool.not_false, Bool.not_true, hc] | simp only [go_sem, Nat.reduceAdd, Nat.reduceMul, Nat.reduceLeDiff, Nat.reduceLT, Nat.reduceEqDiff, Int.reduceToNat, Int.reduceLE, Int.reduceLT, List.forall_mem_cons, List.not_mem_nil, false_implies, implies_true, ha, hb, Bool.not_false, Bool.not_true]))
        | refine awp_seq_k (fun K hK => ?_)
        | refine awp_block ?_
        | refine awp_region_w (by first | (simp; done) | assumption | (simp; omega)) (fun Q hQ => ?_)
        | refine awp_region_q mixed (by kernel_rfl) (by kernel_rfl) rfl (by first | (simp; done) | assumption | (simp; omega)) (fun Q hQ => ?_)
        | refine callW_quiet (rowsMayColumns_q l h1 h2 _) ?_
        | refine callQ_quiet (rowsMayColumns_q l h1 h2 _) ?_
        | refine callW_quiet (rowsMayColumns_q to h3 h4 _) ?_
        | refine callQ_quiet (rowsMayColumns_q to h3 h4 _) ?_
        | refine Both.mk ?_ ?_
        | (refine hQ _ _ ?_; clear hQ Q)
        | (refine hQ _ ?_; clear hQ Q)
        | refine awp_cond_true rfl ?_
        | refine awp_cond_false rfl ?_
        | refine awp_skip ?_
        | (refine awp_exit ?_; simp only [go_sem, Nat.reduceEqDiff])
        | (refine awp_ret ?_; try simp only [inBlock_ret, andThen_ret])
        | ((first | refine hK _ ?_ | (clear hK K; refine hK _ ?_) | (clear hK K; clear hK K; refine hK _ ?_) | (clear hK K; clear hK K; clear hK K; refine hK _ ?_) | (clear hK K; clear hK K; clear hK K; clear hK K; refine hK _ ?_) | (clear hK K; clear hK K; clear hK K; clear hK K; clear hK K; refine hK _ ?_) | (clear hK K; clear hK K; clear hK K; clear hK K; clear hK K; clear hK K; refine hK _ ?_)); clear hK; clear K)
        | refine And.intro (by first | assumption | omega | trivial | rfl | (simp; done)) ?_
        | (refine awp_cond _ rfl (fun hc => ?_) (fun hc => ?_) <;> (try simp only [Bool.not_eq_true', Bool.not_eq_false'] at hc) <;> (try simp only [hc]))
        | (refine gdW_split (fun hc => ?_) (fun hc => ?_) <;> (try simp only [Bool.not_eq_true', Bool.not_eq_false'] at hc))
        | (refine gdQ_split (fun hc => ?_) (fun hc => ?_) <;> (try simp only [Bool.not_eq_true', Bool.not_eq_false'] at hc)))
      exact end_none0 hB (by first | (simp only [go_sem]; done) | (simp only [go_sem]; rfl) | rfl) (by simp)
    | true =>
      cases hf : allP formP l row with
      | false =>
        have hv : turnV l to row = ([], 100) := by simp [turnV, ha, hb, hf]
        rw [hv]
        repeat' (first
          | ((with_reducible first | refine isWL ?_ | refine isGW ?_ | refine isWQ ?_ | refine isGQ ?_); (first | simp only [go_sem, Nat.reduceAdd, Nat.reduceMul, Nat.reduceLeDiff, Nat.reduceLT, Nat.reduceEqDiff, Int.reduceToNat, Int.reduceLE, Int.reduceLT, List.forall_mem_cons, List.not_mem_nil, false_implies, implies_true, ha, hb, hf, Bool.not_false, Bool.not_true, hc] | simp only [go_sem, Nat.reduceAdd, Nat.reduceMul, Nat.reduceLeDiff, Nat.reduceLT, Nat.reduceEqDiff, Int.reduceToNat, Int.reduceLE, Int.reduceLT, List.forall_mem_cons, List.not_mem_nil, false_implies, implies_true, ha, hb, hf, Bool.not_false, Bool.not_true]))
          | refine awp_seq_k (fun K hK => ?_)
          | refine awp_block ?_
          | refine awp_region_w (by first | (simp; done) | assumption | (simp; omega)) (fun Q hQ => ?_)
          | refine awp_region_q mixed (by kernel_rfl) (by kernel_rfl) rfl (by first | (simp; done) | assumption | (simp; omega)) (fun Q hQ => ?_)
          | refine callW_quiet (rowsMayColumns_q l h1 h2 _) ?_
          | refine callQ_quiet (rowsMayColumns_q l h1 h2 _) ?_
          | refine callW_quiet (rowsMayColumns_q to h3 h4 _) ?_
          | refine callQ_quiet (rowsMayColumns_q to h3 h4 _) ?_
          | refine callW_quiet (formed_q l row (by omega) _) ?_
          | refine callQ_quiet (formed_q l row (by omega) _) ?_
          | refine Both.mk ?_ ?_
          | (refine hQ _ _ ?_; clear hQ Q)
          | (refine hQ _ ?_; clear hQ Q)
          | refine awp_cond_true rfl ?_
          | refine awp_cond_false rfl ?_
          | refine awp_skip ?_
          | (refine awp_exit ?_; simp only [go_sem, Nat.reduceEqDiff])
          | (refine awp_ret ?_; try simp only [inBlock_ret, andThen_ret])
          | ((first | refine hK _ ?_ | (clear hK K; refine hK _ ?_) | (clear hK K; clear hK K; refine hK _ ?_) | (clear hK K; clear hK K; clear hK K; refine hK _ ?_) | (clear hK K; clear hK K; clear hK K; clear hK K; refine hK _ ?_) | (clear hK K; clear hK K; clear hK K; clear hK K; clear hK K; refine hK _ ?_) | (clear hK K; clear hK K; clear hK K; clear hK K; clear hK K; clear hK K; refine hK _ ?_)); clear hK; clear K)
          | refine And.intro (by first | assumption | omega | trivial | rfl | (simp; done)) ?_
          | (refine awp_cond _ rfl (fun hc => ?_) (fun hc => ?_) <;> (try simp only [Bool.not_eq_true', Bool.not_eq_false'] at hc) <;> (try simp only [hc]))
          | (refine gdW_split (fun hc => ?_) (fun hc => ?_) <;> (try simp only [Bool.not_eq_true', Bool.not_eq_false'] at hc))
          | (refine gdQ_split (fun hc => ?_) (fun hc => ?_) <;> (try simp only [Bool.not_eq_true', Bool.not_eq_false'] at hc)))
        exact end_none0 hB (by first | (simp only [go_sem]; done) | (simp only [go_sem]; rfl) | rfl) (by simp)
      | true =>
        have hv : turnV l to row = (to.map (turn1 l row), 0) := by simp [turnV, ha, hb, hf]
        rw [hv]
        have hlen := allP_eq_len hf
        repeat' (first
          | ((with_reducible first | refine isWL ?_ | refine isGW ?_ | refine isWQ ?_ | refine isGQ ?_); (first | simp only [go_sem, Nat.reduceAdd, Nat.reduceMul, Nat.reduceLeDiff, Nat.reduceLT, Nat.reduceEqDiff, Int.reduceToNat, Int.reduceLE, Int.reduceLT, List.forall_mem_cons, List.not_mem_nil, false_implies, implies_true, ha, hb, hf, Bool.not_false, Bool.not_true, hc] | simp only [go_sem, Nat.reduceAdd, Nat.reduceMul, Nat.reduceLeDiff, Nat.reduceLT, Nat.reduceEqDiff, Int.reduceToNat, Int.reduceLE, Int.reduceLT, List.forall_mem_cons, List.not_mem_nil, false_implies, implies_true, ha, hb, hf, Bool.not_false, Bool.not_true]))
          | refine awp_seq_k (fun K hK => ?_)
          | refine awp_block ?_
          | refine awp_region_w (by first | (simp; done) | assumption | (simp; omega)) (fun Q hQ => ?_)
          | refine awp_region_q mixed (by kernel_rfl) (by kernel_rfl) rfl (by first | (simp; done) | assumption | (simp; omega)) (fun Q hQ => ?_)
          | refine callW_quiet (rowsMayColumns_q l h1 h2 _) ?_
          | refine callQ_quiet (rowsMayColumns_q l h1 h2 _) ?_
          | refine callW_quiet (rowsMayColumns_q to h3 h4 _) ?_
          | refine callQ_quiet (rowsMayColumns_q to h3 h4 _) ?_
          | refine callW_quiet (formed_q l row (by omega) _) ?_
          | refine callQ_quiet (formed_q l row (by omega) _) ?_
          | refine Both.mk ?_ ?_
          | (refine hQ _ _ ?_; clear hQ Q)
          | (refine hQ _ ?_; clear hQ Q)
          | refine awp_cond_true rfl ?_
          | refine awp_cond_false rfl ?_
          | refine awp_skip ?_
          | (refine awp_exit ?_; simp only [go_sem, Nat.reduceEqDiff])
          | (refine awp_ret ?_; try simp only [inBlock_ret, andThen_ret])
          | ((first | refine hK _ ?_ | (clear hK K; refine hK _ ?_) | (clear hK K; clear hK K; refine hK _ ?_) | (clear hK K; clear hK K; clear hK K; refine hK _ ?_) | (clear hK K; clear hK K; clear hK K; clear hK K; refine hK _ ?_) | (clear hK K; clear hK K; clear hK K; clear hK K; clear hK K; refine hK _ ?_) | (clear hK K; clear hK K; clear hK K; clear hK K; clear hK K; clear hK K; refine hK _ ?_)); clear hK; clear K)
          | refine And.intro (by first | assumption | omega | trivial | rfl | (simp; done)) ?_
          | (refine awp_cond _ rfl (fun hc => ?_) (fun hc => ?_) <;> (try simp only [Bool.not_eq_true', Bool.not_eq_false'] at hc) <;> (try simp only [hc]))
          | (refine gdW_split (fun hc => ?_) (fun hc => ?_) <;> (try simp only [Bool.not_eq_true', Bool.not_eq_false'] at hc))
          | (refine gdQ_split (fun hc => ?_) (fun hc => ?_) <;> (try simp only [Bool.not_eq_true', Bool.not_eq_false'] at hc)))
        refine awp_loop_at (fun T n S => ∃ (i : Nat) (acc : List ValR), (i ≤ (to).length ∧ acc ++ (to.drop i).map (turn1 l row) = to.map (turn1 l row) ∧ acc.length = i) ∧ n = (to).length - i ∧ S = ⟨setT T [(29, .int .i64 (i : Int)), (8, .sl H.length acc.length 0 acc.length), (10, .junk), (11, .junk), (12, .junk), (30, .junk), (31, .junk), (32, .junk), (33, .junk), (34, .junk), (35, .junk), (36, .junk), (37, .junk), (38, .junk), (39, .junk), (40, .junk), (41, .junk), (42, .junk), (43, .junk), (44, .junk), (45, .junk), (46, .junk), (47, .junk), (48, .junk), (49, .junk), (50, .junk), (51, .junk), (52, .junk), (53, .junk), (54, .junk), (55, .junk), (56, .junk), (57, .junk), (58, .junk)], H ++ [valObj acc]⟩) ?_ ?_
        · refine ⟨_, _, weak_nil (24) (3) (H.length) (by simp) (by first | (simp; done) | (simp only [go_sem]; done) | (simp only [go_sem]; simp; done)) (by simp) ?_, 0, [], ⟨Nat.zero_le _, by simp⟩, rfl, rfl⟩
          simp only [go_sem]; simp [NilT]
        · rintro n S ⟨i, acc, ⟨hi, hinv⟩, rfl, rfl⟩
          by_cases hlt : i < (to).length
          · have hw := wrap_succ hlt (by omega)
            have hd : decide (i < (to).length) = true := by simpa using hlt
            obtain ⟨a, ha⟩ : ∃ a, (to)[i]? = some a := ⟨_, List.getElem?_eq_getElem hlt⟩
            have hl := look_map (g := ColR.av) ha
            have hmem := List.mem_of_getElem? ha
            try rw [drop_cons ha] at hinv
            obtain ⟨hinv, hal⟩ := hinv
            simp only [List.map_cons] at hinv
            have hix := idxOf_lt (p := fun d : ColR => d.name == a.name) (l := l)
            by_cases h0 : 0 ≤ idxOf (fun d => d.name == a.name) l
            · have hd0 : decide (0 ≤ idxOf (fun d => d.name == a.name) l) = true := by simpa using h0
              obtain ⟨hlt2, hlk2⟩ := valOf_look hlen h0
              obtain ⟨c, hc0⟩ : ∃ c, l[(idxOf (fun d => d.name == a.name) l).toNat]? = some c := ⟨_, List.getElem?_eq_getElem (by omega)⟩
              have hlk0 := look_map (g := ColR.av) hc0
              have hk : kindAt l (idxOf (fun d => d.name == a.name) l) = c.kind := by simp only [kindAt, hc0]
              repeat' (first
                | ((with_reducible first | refine isWL ?_ | refine isGW ?_ | refine isWQ ?_ | refine isGQ ?_); (first | simp only [go_sem, Nat.reduceAdd, Nat.reduceMul, Nat.reduceLeDiff, Nat.reduceLT, Nat.reduceEqDiff, Int.reduceToNat, Int.reduceLE, Int.reduceLT, List.forall_mem_cons, List.not_mem_nil, false_implies, implies_true, hd, hw, hl, hlt, hlt2, hlk2, hlk0, hix, h0, hd0, List.length_map, hc] | simp only [go_sem, Nat.reduceAdd, Nat.reduceMul, Nat.reduceLeDiff, Nat.reduceLT, Nat.reduceEqDiff, Int.reduceToNat, Int.reduceLE, Int.reduceLT, List.forall_mem_cons, List.not_mem_nil, false_implies, implies_true, hd, hw, hl, hlt, hlt2, hlk2, hlk0, hix, h0, hd0, List.length_map]))
                | refine awp_seq_k (fun K hK => ?_)
                | refine awp_block ?_
                | refine awp_region_w (by first | (simp; done) | assumption | (simp; omega)) (fun Q hQ => ?_)
                | refine awp_region_q mixed (by kernel_rfl) (by kernel_rfl) rfl (by first | (simp; done) | assumption | (simp; omega)) (fun Q hQ => ?_)
                | refine callW_quiet (place_q l a.name (by omega) _) ?_
                | refine callQ_quiet (place_q l a.name (by omega) _) ?_
                | refine Both.mk ?_ ?_
                | (refine hQ _ _ ?_; clear hQ Q)
                | (refine hQ _ ?_; clear hQ Q)
                | refine awp_cond_true rfl ?_
                | refine awp_cond_false rfl ?_
                | refine awp_skip ?_
                | (refine awp_exit ?_; simp only [go_sem, Nat.reduceEqDiff])
                | (refine awp_ret ?_; try simp only [inBlock_ret, andThen_ret])
                | ((first | refine hK _ ?_ | (clear hK K; refine hK _ ?_) | (clear hK K; clear hK K; refine hK _ ?_) | (clear hK K; clear hK K; clear hK K; refine hK _ ?_) | (clear hK K; clear hK K; clear hK K; clear hK K; refine hK _ ?_) | (clear hK K; clear hK K; clear hK K; clear hK K; clear hK K; refine hK _ ?_) | (clear hK K; clear hK K; clear hK K; clear hK K; clear hK K; clear hK K; refine hK _ ?_)); clear hK; clear K)
                | refine And.intro (by first | assumption | omega | trivial | rfl | (simp; done)) ?_
                | (refine awp_cond _ rfl (fun hc => ?_) (fun hc => ?_) <;> (try simp only [Bool.not_eq_true', Bool.not_eq_false'] at hc) <;> (try simp only [hc]))
                | (refine gdW_split (fun hc => ?_) (fun hc => ?_) <;> (try simp only [Bool.not_eq_true', Bool.not_eq_false'] at hc))
                | (refine gdQ_split (fun hc => ?_) (fun hc => ?_) <;> (try simp only [Bool.not_eq_true', Bool.not_eq_false'] at hc)))
              all_goals
                simp only [turn1, hk, hd0, *, Bool.true_and, if_true, Bool.false_eq_true, if_false] at hinv
                first
                | (rw [andThen_normal]
                   refine ⟨(to).length - (i + 1), by omega, _, ?_, i + 1, acc ++ [valOf l row a.name], ⟨by omega, ⟨by simpa using hinv, by simp; omega⟩⟩, rfl, rfl⟩
                   first
                     | (refine weak_junk ?_; (try simp only [go_sem]); simp [LeT]; done)
                     | (simp only [go_sem, List.map_append, List.map_cons, List.map_nil, List.length_append, List.length_cons, List.length_nil, List.length_map, Nat.zero_add, List.append_assoc, List.cons_append, List.nil_append]; refine weak_junk ?_; simp [LeT]; done)
                     | ((try simp only [go_sem, List.map_append, List.map_cons, List.map_nil, List.length_append, List.length_cons, List.length_nil, List.length_map, Nat.zero_add, List.append_assoc, List.cons_append, List.nil_append]); refine weak_cut _ (by first | rfl | (simp only [List.append_assoc, List.cons_append, List.nil_append]; rfl)) (by simp) (by simp [LeT]) (by simp) (by first | exact hB | (refine hB_app hB ?_; simp; done) | (refine hB_app hB ?_; simp [or_imp, forall_and]; done) | (refine hB_app hB ?_; simp; refine forall_set ?_ ?_ <;> simp; done)); done))
                | (rw [andThen_normal]
                   refine ⟨(to).length - (i + 1), by omega, _, ?_, i + 1, acc ++ [⟨1, 0, []⟩], ⟨by omega, ⟨by simpa using hinv, by simp; omega⟩⟩, rfl, rfl⟩
                   first
                     | (refine weak_junk ?_; (try simp only [go_sem]); simp [LeT]; done)
                     | (simp only [go_sem, List.map_append, List.map_cons, List.map_nil, List.length_append, List.length_cons, List.length_nil, List.length_map, Nat.zero_add, List.append_assoc, List.cons_append, List.nil_append]; refine weak_junk ?_; simp [LeT]; done)
                     | ((try simp only [go_sem, List.map_append, List.map_cons, List.map_nil, List.length_append, List.length_cons, List.length_nil, List.length_map, Nat.zero_add, List.append_assoc, List.cons_append, List.nil_append]); refine weak_cut _ (by first | rfl | (simp only [List.append_assoc, List.cons_append, List.nil_append]; rfl)) (by simp) (by simp [LeT]) (by simp) (by first | exact hB | (refine hB_app hB ?_; simp; done) | (refine hB_app hB ?_; simp [or_imp, forall_and]; done) | (refine hB_app hB ?_; simp; refine forall_set ?_ ?_ <;> simp; done)); done))
            · have hd0 : decide (0 ≤ idxOf (fun d => d.name == a.name) l) = false := by simpa using h0
              simp only [turn1, hd0, Bool.false_and, Bool.false_eq_true, if_false] at hinv
              repeat' (first
                | ((with_reducible first | refine isWL ?_ | refine isGW ?_ | refine isWQ ?_ | refine isGQ ?_); (first | simp only [go_sem, Nat.reduceAdd, Nat.reduceMul, Nat.reduceLeDiff, Nat.reduceLT, Nat.reduceEqDiff, Int.reduceToNat, Int.reduceLE, Int.reduceLT, List.forall_mem_cons, List.not_mem_nil, false_implies, implies_true, hd, hw, hl, hlt, hix, hd0, List.length_map, hc] | simp only [go_sem, Nat.reduceAdd, Nat.reduceMul, Nat.reduceLeDiff, Nat.reduceLT, Nat.reduceEqDiff, Int.reduceToNat, Int.reduceLE, Int.reduceLT, List.forall_mem_cons, List.not_mem_nil, false_implies, implies_true, hd, hw, hl, hlt, hix, hd0, List.length_map]))
                | refine awp_seq_k (fun K hK => ?_)
                | refine awp_block ?_
                | refine awp_region_w (by first | (simp; done) | assumption | (simp; omega)) (fun Q hQ => ?_)
                | refine awp_region_q mixed (by kernel_rfl) (by kernel_rfl) rfl (by first | (simp; done) | assumption | (simp; omega)) (fun Q hQ => ?_)
                | refine callW_quiet (place_q l a.name (by omega) _) ?_
                | refine callQ_quiet (place_q l a.name (by omega) _) ?_
                | refine Both.mk ?_ ?_
                | (refine hQ _ _ ?_; clear hQ Q)
                | (refine hQ _ ?_; clear hQ Q)
                | refine awp_cond_true rfl ?_
                | refine awp_cond_false rfl ?_
                | refine awp_skip ?_
                | (refine awp_exit ?_; simp only [go_sem, Nat.reduceEqDiff])
                | (refine awp_ret ?_; try simp only [inBlock_ret, andThen_ret])
                | ((first | refine hK _ ?_ | (clear hK K; refine hK _ ?_) | (clear hK K; clear hK K; refine hK _ ?_) | (clear hK K; clear hK K; clear hK K; refine hK _ ?_) | (clear hK K; clear hK K; clear hK K; clear hK K; refine hK _ ?_) | (clear hK K; clear hK K; clear hK K; clear hK K; clear hK K; refine hK _ ?_) | (clear hK K; clear hK K; clear hK K; clear hK K; clear hK K; clear hK K; refine hK _ ?_)); clear hK; clear K)
                | refine And.intro (by first | assumption | omega | trivial | rfl | (simp; done)) ?_
                | (refine awp_cond _ rfl (fun hc => ?_) (fun hc => ?_) <;> (try simp only [Bool.not_eq_true', Bool.not_eq_false'] at hc) <;> (try simp only [hc]))
                | (refine gdW_split (fun hc => ?_) (fun hc => ?_) <;> (try simp only [Bool.not_eq_true', Bool.not_eq_false'] at hc))
                | (refine gdQ_split (fun hc => ?_) (fun hc => ?_) <;> (try simp only [Bool.not_eq_true', Bool.not_eq_false'] at hc)))
              rw [andThen_normal]
              refine ⟨(to).length - (i + 1), by omega, _, ?_, i + 1, acc ++ [⟨1, 0, []⟩], ⟨by omega, ⟨by simpa using hinv, by simp; omega⟩⟩, rfl, rfl⟩
              first
                | (refine weak_junk ?_; (try simp only [go_sem]); simp [LeT]; done)
                | (simp only [go_sem, List.map_append, List.map_cons, List.map_nil, List.length_append, List.length_cons, List.length_nil, List.length_map, Nat.zero_add, List.append_assoc, List.cons_append, List.nil_append]; refine weak_junk ?_; simp [LeT]; done)
                | ((try simp only [go_sem, List.map_append, List.map_cons, List.map_nil, List.length_append, List.length_cons, List.length_nil, List.length_map, Nat.zero_add, List.append_assoc, List.cons_append, List.nil_append]); refine weak_cut _ (by first | rfl | (simp only [List.append_assoc, List.cons_append, List.nil_append]; rfl)) (by simp) (by simp [LeT]) (by simp) (by first | exact hB | (refine hB_app hB ?_; simp; done) | (refine hB_app hB ?_; simp [or_imp, forall_and]; done) | (refine hB_app hB ?_; simp; refine forall_set ?_ ?_ <;> simp; done)); done)
          · have hd : decide (i < (to).length) = false := by simpa using hlt
            have hnil : (to).drop i = [] := List.drop_eq_nil_of_le (by omega)
            try rw [hnil] at hinv
            obtain ⟨hinv, hal⟩ := hinv
            simp only [List.map_nil, List.append_nil] at hinv
            repeat (first
              | ((with_reducible first | refine isWL ?_ | refine isGW ?_ | refine isWQ ?_ | refine isGQ ?_); simp only [go_sem, Nat.reduceAdd, Nat.reduceMul, Nat.reduceLeDiff, Nat.reduceLT, Nat.reduceEqDiff, Int.reduceToNat, Int.reduceLE, Int.reduceLT, List.forall_mem_cons, List.not_mem_nil, false_implies, implies_true, hd])
              | refine awp_seq_k (fun K hK => ?_)
              | refine awp_block ?_
              | refine awp_region_w (by first | (simp; done) | assumption | (simp; omega)) (fun Q hQ => ?_)
              | refine awp_region_q mixed (by kernel_rfl) (by kernel_rfl) rfl (by first | (simp; done) | assumption | (simp; omega)) (fun Q hQ => ?_)
              | refine Both.mk ?_ ?_
              | (refine hQ _ _ ?_; clear hQ Q)
              | (refine hQ _ ?_; clear hQ Q)
              | refine awp_cond_true rfl ?_
              | refine awp_cond_false rfl ?_
              | refine awp_skip ?_
              | (refine awp_exit ?_; simp only [go_sem, Nat.reduceEqDiff])
              | (refine awp_ret ?_; try simp only [inBlock_ret, andThen_ret])
              | ((first | refine hK _ ?_ | (clear hK K; refine hK _ ?_) | (clear hK K; clear hK K; refine hK _ ?_) | (clear hK K; clear hK K; clear hK K; refine hK _ ?_) | (clear hK K; clear hK K; clear hK K; clear hK K; refine hK _ ?_) | (clear hK K; clear hK K; clear hK K; clear hK K; clear hK K; refine hK _ ?_) | (clear hK K; clear hK K; clear hK K; clear hK K; clear hK K; clear hK K; refine hK _ ?_)); clear hK; clear K)
              | refine And.intro (by first | assumption | omega | trivial | rfl | (simp; done)) ?_)
            rw [← hinv]
            exact ⟨_, (by first | (simp only [go_sem]; done) | (simp only [go_sem]; rfl) | rfl), _, Weak.refl _ _, _, rfl, rfl, rfl⟩

end Go.Proofs.Ytamoclnnakdiaaa.Abs
