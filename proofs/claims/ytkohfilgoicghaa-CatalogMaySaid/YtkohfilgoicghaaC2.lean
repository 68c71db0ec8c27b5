/-
  The reference's names and commands.
  Conditions: none.
-/
import Derived.Test.YtkohfilgoicghaaC1
namespace Go.Proofs.Ytkohfilgoicghaa.Abs
open Go Go.RowKit
set_option linter.unusedVariables false
set_option maxRecDepth 100000
set_option maxHeartbeats 4000000
set_option linter.unusedSimpArgs false

theorem inB_nat (c : UInt8) : inB c = ((decide (97 ≤ c.toNat) && decide (c.toNat ≤ 122)) || (decide (48 ≤ c.toNat) && decide (c.toNat ≤ 57)) || decide (c.toNat = 95)) := by
  have := all_bytes (p := fun c => inB c == ((decide (97 ≤ c.toNat) && decide (c.toNat ≤ 122)) || (decide (48 ≤ c.toNat) && decide (c.toNat ≤ 57)) || decide (c.toNat = 95))) (by decide +kernel) c
  simpa using this
theorem letter_nat (c : UInt8) : (decide (97 ≤ c) && decide (c ≤ 122)) = (decide (97 ≤ c.toNat) && decide (c.toNat ≤ 122)) := by
  have := all_bytes (p := fun c => (decide (97 ≤ c) && decide (c ≤ 122)) == (decide (97 ≤ c.toNat) && decide (c.toNat ≤ 122))) (by decide +kernel) c
  simpa using this

theorem name_iff (s : List UInt8) : nameB s = true ↔ (1 ≤ s.length ∧ s.length ≤ 16 ∧ 97 ≤ (bAt s 0).toNat ∧ (bAt s 0).toNat ≤ 122 ∧ plainB s = true) := by
  unfold nameB
  rw [letter_nat]
  cases s with
  | nil => simp
  | cons c t => simp [and_assoc]
theorem name_true {s : List UInt8} (h : 1 ≤ s.length ∧ s.length ≤ 16 ∧ 97 ≤ (bAt s 0).toNat ∧ (bAt s 0).toNat ≤ 122 ∧ plainB s = true) : nameB s = true := (name_iff s).2 h
theorem name_false {s : List UInt8} (h : ¬(1 ≤ s.length ∧ s.length ≤ 16 ∧ 97 ≤ (bAt s 0).toNat ∧ (bAt s 0).toNat ≤ 122 ∧ plainB s = true)) : nameB s = false := by
  rw [← Bool.not_eq_true, name_iff]; exact h
theorem in_iff (c : UInt8) : inB c = true ↔ ((97 ≤ c.toNat ∧ c.toNat ≤ 122) ∨ (48 ≤ c.toNat ∧ c.toNat ≤ 57) ∨ c.toNat = 95) := by
  rw [inB_nat]
  simp only [Bool.or_eq_true, Bool.and_eq_true, decide_eq_true_eq, or_assoc]

theorem refName_q (s : List UInt8) (hs : tx s) (H : List AObj) : QuietF Go.Proofs.Try.prog 38 [.str s] H (.bool (nameB s)) := by
  refine ACallF.of hb_38 (acalls_body Try.func38 rfl ?_)
  intro hB hA
  rw [args0_38]
  unfold tx at hs
  repeat' (first
    | refine awp_seq_k (fun K hK => ?_)
    | refine awp_block ?_
    | (refine awp_region_w (by simp) (fun Q hQ => ?_); simp only [go_sem, Nat.reduceAdd, Nat.reduceMul, Nat.reduceLeDiff, Nat.reduceLT, Nat.reduceEqDiff, Int.reduceToNat, Int.reduceLE, Int.reduceLT])
    | (refine awp_region_q mixed (by kernel_rfl) (by kernel_rfl) rfl (by simp) (fun Q hQ => ?_); simp only [go_sem, Nat.reduceAdd, Nat.reduceMul, Nat.reduceLeDiff, Nat.reduceLT, Nat.reduceEqDiff, Int.reduceToNat, Int.reduceLE, Int.reduceLT])
    | (refine hQ _ _ ?_; clear hQ Q)
    | (refine hQ _ ?_; clear hQ Q)
    | refine awp_cond_true rfl ?_
    | refine awp_cond_false rfl ?_
    | refine awp_skip ?_
    | (refine awp_exit ?_; simp only [go_sem])
    | (refine awp_ret ?_; try simp only [inBlock_ret, andThen_ret])
    | (refine hK _ ?_; clear hK; clear K)
    | (clear hK K; refine hK _ ?_; clear hK; clear K)
    | refine And.intro (by first | assumption | omega | (simp; done) | (simp only [decide_eq_true_eq, decide_eq_false_iff_not] at *; omega)) ?_
    | (refine awp_cond _ rfl (fun hc => ?_) (fun hc => ?_) <;> (try simp only [Bool.not_eq_true', Bool.not_eq_false'] at hc) <;> (try simp only [hc]))
    | (refine gdW_split (fun hc => ?_) (fun hc => ?_) <;> (try simp only [Bool.not_eq_true', Bool.not_eq_false'] at hc) <;> simp only [go_sem, Nat.reduceAdd, Nat.reduceMul, Nat.reduceLeDiff, Nat.reduceLT, Nat.reduceEqDiff, Int.reduceToNat, Int.reduceLE, Int.reduceLT, hc])
    | (refine gdQ_split (fun hc => ?_) (fun hc => ?_) <;> (try simp only [Bool.not_eq_true', Bool.not_eq_false'] at hc) <;> simp only [go_sem, Nat.reduceAdd, Nat.reduceMul, Nat.reduceLeDiff, Nat.reduceLT, Nat.reduceEqDiff, Int.reduceToNat, Int.reduceLE, Int.reduceLT, hc]))
  rotate_left
  · repeat (first
      | refine awp_seq_k (fun K hK => ?_)
      | refine awp_block ?_
      | (refine awp_region_w (by simp) (fun Q hQ => ?_); simp only [go_sem, Nat.reduceAdd, Nat.reduceMul, Nat.reduceLeDiff, Nat.reduceLT, Nat.reduceEqDiff, Int.reduceToNat, Int.reduceLE, Int.reduceLT])
      | (refine awp_region_q mixed (by kernel_rfl) (by kernel_rfl) rfl (by simp) (fun Q hQ => ?_); simp only [go_sem, Nat.reduceAdd, Nat.reduceMul, Nat.reduceLeDiff, Nat.reduceLT, Nat.reduceEqDiff, Int.reduceToNat, Int.reduceLE, Int.reduceLT])
      | (refine hQ _ _ ?_; clear hQ Q)
      | (refine hQ _ ?_; clear hQ Q)
      | refine awp_cond_true rfl ?_
      | refine awp_cond_false rfl ?_
      | refine awp_skip ?_
      | (refine awp_exit ?_; simp only [go_sem])
      | (refine awp_ret ?_; try simp only [inBlock_ret, andThen_ret])
      | (refine hK _ ?_; clear hK; clear K)
      | (clear hK K; refine hK _ ?_; clear hK; clear K)
      | refine And.intro (by first | assumption | omega | (simp; done)) ?_)
    refine awp_loop (fun n S => ∃ i : Nat, i ≤ s.length ∧ n = s.length - i ∧ (s.take i).all inB = true ∧
        S = ⟨[.str s, .junk, .bool false, .int .i64 (i : Int), .junk, .junk, .junk, .junk, .junk, .junk, .junk, .junk, .junk, .junk, .junk, .junk, .junk, .junk, .junk, .junk, .junk, .junk, .junk, .junk, .junk, .junk, .junk, .junk, .junk, .junk, .junk, .junk, .junk, .junk, .junk, .junk, .junk, .junk, .junk, .junk, .junk, .junk, .junk, .junk, .junk, .junk, .junk, .junk, .junk, .junk, .junk, .junk, .junk, .junk, .junk, .junk], H⟩) ?_ ?_
    · refine ⟨_, _, weak_junk ?_, 0, Nat.zero_le _, rfl, by simp, rfl⟩
      simp [LeT]
    · rintro n S ⟨i, hi, rfl, hall, rfl⟩
      by_cases hlt : i < s.length
      · have hw := wrap_succ hlt (by omega)
        have hd : (decide (i < s.length)) = true := by simpa using hlt
        repeat' (first
          | refine awp_seq_k (fun K hK => ?_)
          | refine awp_block ?_
          | (refine awp_region_w (by simp) (fun Q hQ => ?_); simp only [go_sem, Nat.reduceAdd, Nat.reduceMul, Nat.reduceLeDiff, Nat.reduceLT, Nat.reduceEqDiff, Int.reduceToNat, Int.reduceLE, Int.reduceLT, hd, hw])
          | (refine awp_region_q mixed (by kernel_rfl) (by kernel_rfl) rfl (by simp) (fun Q hQ => ?_); simp only [go_sem, Nat.reduceAdd, Nat.reduceMul, Nat.reduceLeDiff, Nat.reduceLT, Nat.reduceEqDiff, Int.reduceToNat, Int.reduceLE, Int.reduceLT, hd, hw])
          | (refine hQ _ _ ?_; clear hQ Q)
          | (refine hQ _ ?_; clear hQ Q)
          | refine awp_cond_true rfl ?_
          | refine awp_cond_false rfl ?_
          | refine awp_skip ?_
          | (refine awp_exit ?_; simp only [go_sem])
          | (refine awp_ret ?_; try simp only [inBlock_ret, andThen_ret])
          | (refine hK _ ?_; clear hK; clear K)
          | (clear hK K; refine hK _ ?_; clear hK; clear K)
          | refine And.intro (by first | assumption | omega | (simp; done) | (simp only [decide_eq_true_eq, decide_eq_false_iff_not] at *; omega)) ?_
          | (refine awp_cond _ rfl (fun hc => ?_) (fun hc => ?_) <;> (try simp only [Bool.not_eq_true', Bool.not_eq_false'] at hc) <;> (try simp only [hc]))
          | (refine gdW_split (fun hc => ?_) (fun hc => ?_) <;> (try simp only [Bool.not_eq_true', Bool.not_eq_false'] at hc) <;> simp only [go_sem, Nat.reduceAdd, Nat.reduceMul, Nat.reduceLeDiff, Nat.reduceLT, Nat.reduceEqDiff, Int.reduceToNat, Int.reduceLE, Int.reduceLT, hd, hw, hc])
          | (refine gdQ_split (fun hc => ?_) (fun hc => ?_) <;> (try simp only [Bool.not_eq_true', Bool.not_eq_false'] at hc) <;> simp only [go_sem, Nat.reduceAdd, Nat.reduceMul, Nat.reduceLeDiff, Nat.reduceLT, Nat.reduceEqDiff, Int.reduceToNat, Int.reduceLE, Int.reduceLT, hd, hw, hc]))
        all_goals first
          | (have hx : inB (bAt s i) = true := by
               clear hB hA hK hall hd
               rw [in_iff]
               simp only [decide_eq_true_eq, decide_eq_false_iff_not, beq_iff_eq, beq_eq_false_iff_ne, ne_eq] at *; omega
             rw [andThen_normal]
             refine ⟨s.length - (i + 1), by omega, _, weak_junk ?_, i + 1, by omega, rfl, ?_, rfl⟩
             · simp [LeT]
             · rw [take_all_succ hlt, hall, hx]; rfl)
          | (have hx : inB (bAt s i) = false := by
               clear hB hA hall hd
               rw [← Bool.not_eq_true, in_iff]
               simp only [decide_eq_true_eq, decide_eq_false_iff_not, beq_iff_eq, beq_eq_false_iff_ne, ne_eq] at *; omega
             have hp : plainB s = false := all_false_at hlt hx
             rw [name_false (by rw [hp]; simp)]
             exact end_quiet0 rfl rfl)
      · have hd : decide (i < s.length) = false := by simpa using hlt
        have hpl : plainB s = true := by
          have : s.take i = s := List.take_of_length_le (by omega)
          rw [this] at hall
          exact hall
        repeat (first
          | refine awp_seq_k (fun K hK => ?_)
          | refine awp_block ?_
          | (refine awp_region_w (by simp) (fun Q hQ => ?_); simp only [go_sem, Nat.reduceAdd, Nat.reduceMul, Nat.reduceLeDiff, Nat.reduceLT, Nat.reduceEqDiff, Int.reduceToNat, Int.reduceLE, Int.reduceLT, hd])
          | (refine awp_region_q mixed (by kernel_rfl) (by kernel_rfl) rfl (by simp) (fun Q hQ => ?_); simp only [go_sem, Nat.reduceAdd, Nat.reduceMul, Nat.reduceLeDiff, Nat.reduceLT, Nat.reduceEqDiff, Int.reduceToNat, Int.reduceLE, Int.reduceLT, hd])
          | (refine hQ _ _ ?_; clear hQ Q)
          | (refine hQ _ ?_; clear hQ Q)
          | refine awp_cond_true rfl ?_
          | refine awp_cond_false rfl ?_
          | refine awp_skip ?_
          | (refine awp_exit ?_; simp only [go_sem])
          | (refine awp_ret ?_; try simp only [inBlock_ret, andThen_ret])
          | (refine hK _ ?_; clear hK; clear K)
          | (clear hK K; refine hK _ ?_; clear hK; clear K)
          | refine And.intro (by first | assumption | omega | (simp; done)) ?_)
        rw [name_true ⟨by simp only [decide_eq_true_eq, decide_eq_false_iff_not, beq_iff_eq, beq_eq_false_iff_ne, ne_eq] at *; omega, by simp only [decide_eq_true_eq, decide_eq_false_iff_not, beq_iff_eq, beq_eq_false_iff_ne, ne_eq] at *; omega, by simp only [decide_eq_true_eq, decide_eq_false_iff_not, beq_iff_eq, beq_eq_false_iff_ne, ne_eq] at *; omega, by simp only [decide_eq_true_eq, decide_eq_false_iff_not, beq_iff_eq, beq_eq_false_iff_ne, ne_eq] at *; omega, hpl⟩]
        exact end_quiet0 rfl rfl
  all_goals
    rw [name_false (by simp only [decide_eq_true_eq, decide_eq_false_iff_not] at *; omega)]
    exact end_quiet0 rfl rfl

def textB (s : List UInt8) (u : Bool) : Bool := ((s == []) && !u) || (u && nameB s)

theorem text_q (s : List UInt8) (hs : tx s) (u : Bool) (H : List AObj) : QuietF Go.Proofs.Try.prog 39 [.str s, .bool u] H (.bool (textB s u)) := by
  refine ACallF.of hb_39 (acalls_body Try.func39 rfl ?_)
  intro hB hA
  rw [args0_39]
  repeat' (first
    | refine awp_seq_k (fun K hK => ?_)
    | refine awp_block ?_
    | (refine awp_region_w (by simp) (fun Q hQ => ?_); simp only [go_sem, Nat.reduceAdd, Nat.reduceMul, Nat.reduceLeDiff, Nat.reduceLT, Nat.reduceEqDiff, Int.reduceToNat, Int.reduceLE, Int.reduceLT])
    | (refine awp_region_q mixed (by kernel_rfl) (by kernel_rfl) rfl (by simp) (fun Q hQ => ?_); simp only [go_sem, Nat.reduceAdd, Nat.reduceMul, Nat.reduceLeDiff, Nat.reduceLT, Nat.reduceEqDiff, Int.reduceToNat, Int.reduceLE, Int.reduceLT])
    | (refine callW_quiet (refName_q s hs _) ?_; simp only [go_sem, Nat.reduceAdd, Nat.reduceMul, Nat.reduceLeDiff, Nat.reduceLT, Nat.reduceEqDiff, Int.reduceToNat, Int.reduceLE, Int.reduceLT])
    | (refine callQ_quiet (refName_q s hs _) ?_; simp only [go_sem, Nat.reduceAdd, Nat.reduceMul, Nat.reduceLeDiff, Nat.reduceLT, Nat.reduceEqDiff, Int.reduceToNat, Int.reduceLE, Int.reduceLT])
    | (refine hQ _ _ ?_; clear hQ Q)
    | (refine hQ _ ?_; clear hQ Q)
    | refine awp_cond_true rfl ?_
    | refine awp_cond_false rfl ?_
    | refine awp_skip ?_
    | (refine awp_exit ?_; simp only [go_sem])
    | (refine awp_ret ?_; try simp only [inBlock_ret, andThen_ret])
    | (refine hK _ ?_; clear hK; clear K)
    | (clear hK K; refine hK _ ?_; clear hK; clear K)
    | refine And.intro (by first | assumption | omega | (simp; done)) ?_
    | (refine awp_cond _ rfl (fun hc => ?_) (fun hc => ?_) <;> (try simp only [Bool.not_eq_true', Bool.not_eq_false'] at hc) <;> (try simp only [hc]))
    | (refine gdW_split (fun hc => ?_) (fun hc => ?_) <;> (try simp only [Bool.not_eq_true', Bool.not_eq_false'] at hc) <;> simp only [go_sem, Nat.reduceAdd, Nat.reduceMul, Nat.reduceLeDiff, Nat.reduceLT, Nat.reduceEqDiff, Int.reduceToNat, Int.reduceLE, Int.reduceLT, hc])
    | (refine gdQ_split (fun hc => ?_) (fun hc => ?_) <;> (try simp only [Bool.not_eq_true', Bool.not_eq_false'] at hc) <;> simp only [go_sem, Nat.reduceAdd, Nat.reduceMul, Nat.reduceLeDiff, Nat.reduceLT, Nat.reduceEqDiff, Int.reduceToNat, Int.reduceLE, Int.reduceLT, hc]))
  all_goals
    first | refine end_quiet hB rfl ?_ (by simp) | refine end_quiet0 rfl ?_
    try clear hB hA
    try simp only [go_sem, textB, Bool.not_true, Bool.not_false, *, Bool.true_and, Bool.and_true, Bool.false_and, Bool.and_false, Bool.or_true, Bool.true_or, Bool.false_or, Bool.or_false]

def bareR (r : RuleR) : Bool := (r.name == []) && (r.kind == 0) && ((r.cols.length : Int) == 0) && (r.low == 0) && (r.high == 0) && (r.schema == []) && (r.table == []) && (r.key == [])

theorem refBare_q (r : RuleR) (H : List AObj) : QuietF Go.Proofs.Try.prog 40 [.agg r.cells] H (.bool (bareR r)) := by
  refine ACallF.of hb_40 (acalls_body Try.func40 rfl ?_)
  intro hB hA
  rw [args0_40]
  repeat' (first
    | refine awp_seq_k (fun K hK => ?_)
    | refine awp_block ?_
    | (refine awp_region_w (by simp) (fun Q hQ => ?_); simp only [go_sem, Nat.reduceAdd, Nat.reduceMul, Nat.reduceLeDiff, Nat.reduceLT, Nat.reduceEqDiff, Int.reduceToNat, Int.reduceLE, Int.reduceLT])
    | (refine awp_region_q mixed (by kernel_rfl) (by kernel_rfl) rfl (by simp) (fun Q hQ => ?_); simp only [go_sem, Nat.reduceAdd, Nat.reduceMul, Nat.reduceLeDiff, Nat.reduceLT, Nat.reduceEqDiff, Int.reduceToNat, Int.reduceLE, Int.reduceLT])
    | (refine hQ _ _ ?_; clear hQ Q)
    | (refine hQ _ ?_; clear hQ Q)
    | refine awp_cond_true rfl ?_
    | refine awp_cond_false rfl ?_
    | refine awp_skip ?_
    | (refine awp_exit ?_; simp only [go_sem])
    | (refine awp_ret ?_; try simp only [inBlock_ret, andThen_ret])
    | (refine hK _ ?_; clear hK; clear K)
    | (clear hK K; refine hK _ ?_; clear hK; clear K)
    | refine And.intro (by first | assumption | omega | (simp; done)) ?_
    | (refine awp_cond _ rfl (fun hc => ?_) (fun hc => ?_) <;> (try simp only [Bool.not_eq_true', Bool.not_eq_false'] at hc) <;> (try simp only [hc]))
    | (refine gdW_split (fun hc => ?_) (fun hc => ?_) <;> (try simp only [Bool.not_eq_true', Bool.not_eq_false'] at hc) <;> simp only [go_sem, Nat.reduceAdd, Nat.reduceMul, Nat.reduceLeDiff, Nat.reduceLT, Nat.reduceEqDiff, Int.reduceToNat, Int.reduceLE, Int.reduceLT, hc])
    | (refine gdQ_split (fun hc => ?_) (fun hc => ?_) <;> (try simp only [Bool.not_eq_true', Bool.not_eq_false'] at hc) <;> simp only [go_sem, Nat.reduceAdd, Nat.reduceMul, Nat.reduceLeDiff, Nat.reduceLT, Nat.reduceEqDiff, Int.reduceToNat, Int.reduceLE, Int.reduceLT, hc]))
  all_goals
    first | refine end_quiet hB rfl ?_ (by simp) | refine end_quiet0 rfl ?_
    try clear hB hA
    try simp only [go_sem, bareR, *, Bool.true_and, Bool.and_true, Bool.false_and, Bool.and_false, Bool.or_true, Bool.true_or, Bool.false_or, Bool.or_false]

structure U8 where
  schema : Bool
  table : Bool
  name : Bool
  role : Bool
  cols : Bool
  rule : Bool
  right : Bool
  option : Bool
@[go_sem] def U8.av (u : U8) : AV := .agg [.bool u.schema, .bool u.table, .bool u.name, .bool u.role, .bool u.cols, .bool u.rule, .bool u.right, .bool u.option]

def usesR (k : Int) : Option U8 :=
  if k == 1 then some ⟨true, false, false, false, false, false, false, false⟩
  else if k == 2 then some ⟨true, false, false, false, false, false, false, false⟩
  else if k == 3 then some ⟨true, true, false, false, true, false, false, false⟩
  else if k == 5 then some ⟨true, true, false, false, true, false, false, false⟩
  else if k == 4 then some ⟨true, true, false, false, false, false, false, false⟩
  else if k == 6 then some ⟨true, true, true, false, false, false, false, false⟩
  else if k == 8 then some ⟨true, true, true, false, false, false, false, false⟩
  else if k == 7 then some ⟨true, true, false, false, false, true, false, false⟩
  else if k == 9 then some ⟨true, true, false, true, false, false, false, false⟩
  else if k == 10 then some ⟨false, false, false, true, false, false, false, false⟩
  else if k == 11 then some ⟨false, false, false, true, false, false, false, false⟩
  else if k == 12 then some ⟨false, false, true, true, false, false, false, false⟩
  else if k == 13 then some ⟨false, false, true, true, false, false, false, false⟩
  else if k == 14 then some ⟨true, true, false, true, false, false, true, true⟩
  else if k == 15 then some ⟨true, true, false, true, false, false, true, false⟩
  else none

def uses8 (o : Option U8) : AV :=
  match o with
  | some u => u.av
  | none => (U8.mk false false false false false false false false).av
theorem uses8_some (u : U8) : uses8 (some u) = u.av := rfl
theorem uses8_none : uses8 none = (U8.mk false false false false false false false false).av := rfl

theorem refUses_q (k : Int) (H : List AObj) : QuietF Go.Proofs.Try.prog 37 [.int .i64 k] H (.tuple [uses8 (usesR k), .bool (usesR k).isSome]) := by
  refine ACallF.of hb_37 (acalls_body Try.func37 rfl ?_)
  intro hB hA
  rw [args0_37]
  repeat' (first
    | refine awp_seq_k (fun K hK => ?_)
    | refine awp_block ?_
    | (refine awp_region_w (by simp) (fun Q hQ => ?_); simp only [go_sem, Nat.reduceAdd, Nat.reduceMul, Nat.reduceLeDiff, Nat.reduceLT, Nat.reduceEqDiff, Int.reduceToNat, Int.reduceLE, Int.reduceLT])
    | (refine awp_region_q mixed (by kernel_rfl) (by kernel_rfl) rfl (by simp) (fun Q hQ => ?_); simp only [go_sem, Nat.reduceAdd, Nat.reduceMul, Nat.reduceLeDiff, Nat.reduceLT, Nat.reduceEqDiff, Int.reduceToNat, Int.reduceLE, Int.reduceLT])
    | (refine hQ _ _ ?_; clear hQ Q)
    | (refine hQ _ ?_; clear hQ Q)
    | refine awp_cond_true rfl ?_
    | refine awp_cond_false rfl ?_
    | refine awp_skip ?_
    | (refine awp_exit ?_; simp only [go_sem])
    | (refine awp_ret ?_; try simp only [inBlock_ret, andThen_ret])
    | (refine hK _ ?_; clear hK; clear K)
    | (clear hK K; refine hK _ ?_; clear hK; clear K)
    | refine And.intro (by first | assumption | omega | (simp; done)) ?_
    | (refine awp_cond _ rfl (fun hc => ?_) (fun hc => ?_) <;> (try simp only [Bool.not_eq_true', Bool.not_eq_false'] at hc) <;> (try simp only [hc]))
    | (refine gdW_split (fun hc => ?_) (fun hc => ?_) <;> (try simp only [Bool.not_eq_true', Bool.not_eq_false'] at hc) <;> simp only [go_sem, Nat.reduceAdd, Nat.reduceMul, Nat.reduceLeDiff, Nat.reduceLT, Nat.reduceEqDiff, Int.reduceToNat, Int.reduceLE, Int.reduceLT, hc])
    | (refine gdQ_split (fun hc => ?_) (fun hc => ?_) <;> (try simp only [Bool.not_eq_true', Bool.not_eq_false'] at hc) <;> simp only [go_sem, Nat.reduceAdd, Nat.reduceMul, Nat.reduceLeDiff, Nat.reduceLT, Nat.reduceEqDiff, Int.reduceToNat, Int.reduceLE, Int.reduceLT, hc]))
  all_goals
    refine end_quiet hB (by simp only [go_sem]; rfl) ?_ (by
      unfold uses8
      split <;> simp [U8.av])
    clear hB hA
    simp only [go_sem, usesR, *, Bool.false_eq_true, if_false, if_true, uses8_some, uses8_none, Option.isSome, U8.av]

end Go.Proofs.Ytkohfilgoicghaa.Abs
