/-
  Commands of a catalog: what May and Fencing give.
  Conditions: none.
-/
import Derived.Test.YtkohfilgoicghaaB2
namespace Go.Proofs.Ytkohfilgoicghaa.Abs
open Go Go.RowKit
set_option linter.unusedVariables false
set_option maxRecDepth 100000
set_option maxHeartbeats 4000000
set_option linter.unusedSimpArgs false

/-- A text that is no longer than a text may be. -/
def tx (s : List UInt8) : Prop := s.length ≤ 140737488351232

structure ColR where
  name : List UInt8
  kind : Int
  null : Bool

@[go_sem] def ColR.av (c : ColR) : AV := .agg [.str c.name, .int .i64 c.kind, .bool c.null]

structure RuleR where
  name : List UInt8
  kind : Int
  cols : List (List UInt8)
  low : Int
  high : Int
  schema : List UInt8
  table : List UInt8
  key : List UInt8

@[go_sem] def RuleR.cells (r : RuleR) : List AV := [.str r.name, .int .i64 r.kind, .fz (r.cols.map .str), .int .i64 r.low, .int .i64 r.high, .str r.schema, .str r.table, .str r.key]
def RuleR.ok (r : RuleR) : Prop := tx r.name ∧ (∀ s, s ∈ r.cols → tx s) ∧ tx r.schema ∧ tx r.table ∧ tx r.key

structure CmdR where
  kind : Int
  actor : List UInt8
  schema : List UInt8
  table : List UInt8
  name : List UInt8
  role : List UInt8
  cols : List ColR
  rule : RuleR
  right : Int
  option : Bool

@[go_sem] def CmdR.cells (x : CmdR) : List AV :=
  [.int .i64 x.kind, .str x.actor, .str x.schema, .str x.table, .str x.name, .str x.role, .fz (x.cols.map ColR.av)] ++ x.rule.cells ++ [.int .i64 x.right, .bool x.option]
def CmdR.ok (x : CmdR) : Prop := tx x.actor ∧ tx x.schema ∧ tx x.table ∧ tx x.name ∧ tx x.role ∧ (∀ c, c ∈ x.cols → tx c.name) ∧ x.rule.ok

/-- Is a rule none? -/
def bareB (r : RuleR) : Bool := (((r.cols.length : Int) == 0) && (r.name ++ (r.schema ++ (r.table ++ r.key)) == [])) && (r.kind == 0) && (r.low == 0) && (r.high == 0)

theorem bare_q (r : RuleR) (hr : r.ok) (H : List AObj) : QuietF Go.Proofs.Try.prog 36 [.agg r.cells] H (.bool (bareB r)) := by
  refine ACallF.of hb_36 (acalls_body Try.func36 rfl ?_)
  intro hB hA
  rw [args0_36]
  obtain ⟨h1, h2, h3, h4, h5⟩ := hr
  unfold tx at h1 h3 h4 h5
  repeat' (first
    | refine awp_seq_k (fun K hK => ?_)
    | refine awp_block ?_
    | (refine awp_region_w (by simp) (fun Q hQ => ?_); simp only [go_sem, Nat.reduceAdd, Nat.reduceMul, Nat.reduceLeDiff, Nat.reduceLT, Nat.reduceEqDiff, Int.reduceToNat, Int.reduceLE, Int.reduceLT, List.length_map])
    | (refine awp_region_q mixed (by kernel_rfl) (by kernel_rfl) rfl (by simp) (fun Q hQ => ?_); simp only [go_sem, Nat.reduceAdd, Nat.reduceMul, Nat.reduceLeDiff, Nat.reduceLT, Nat.reduceEqDiff, Int.reduceToNat, Int.reduceLE, Int.reduceLT, List.length_map])
    | (refine hQ _ _ ?_; clear hQ Q)
    | (refine hQ _ ?_; clear hQ Q)
    | refine awp_cond_true rfl ?_
    | refine awp_cond_false rfl ?_
    | refine awp_skip ?_
    | (refine awp_exit ?_; simp only [go_sem])
    | (refine awp_ret ?_; try simp only [inBlock_ret, andThen_ret])
    | (refine hK _ ?_; clear hK; clear K)
    | (clear hK K; refine hK _ ?_; clear hK; clear K)
    | refine And.intro (by first | assumption | omega | (simp; done) | (simp only [List.length_append]; omega)) ?_
    | (refine awp_cond _ rfl (fun hc => ?_) (fun hc => ?_) <;> (try simp only [Bool.not_eq_true', Bool.not_eq_false'] at hc) <;> (try simp only [hc]))
    | (refine gdW_split (fun hc => ?_) (fun hc => ?_) <;> (try simp only [Bool.not_eq_true', Bool.not_eq_false'] at hc) <;> simp only [go_sem, Nat.reduceAdd, Nat.reduceMul, Nat.reduceLeDiff, Nat.reduceLT, Nat.reduceEqDiff, Int.reduceToNat, Int.reduceLE, Int.reduceLT, List.length_map, hc])
    | (refine gdQ_split (fun hc => ?_) (fun hc => ?_) <;> (try simp only [Bool.not_eq_true', Bool.not_eq_false'] at hc) <;> simp only [go_sem, Nat.reduceAdd, Nat.reduceMul, Nat.reduceLeDiff, Nat.reduceLT, Nat.reduceEqDiff, Int.reduceToNat, Int.reduceLE, Int.reduceLT, List.length_map, hc]))
  all_goals
    first | refine end_quiet hB rfl ?_ (by simp) | refine end_quiet0 rfl ?_
    try clear hB hA
    try simp only [go_sem, bareB, *, Bool.true_and, Bool.and_true, Bool.false_and, Bool.and_false, Bool.or_true, Bool.true_or, Bool.false_or, Bool.or_false]

def fencesB (k rk : Int) : Bool :=
  if k == 2 || k == 4 || k == 6 || k == 9 || k == 11 || k == 13 || k == 15 then true
  else if k == 7 then !(rk == 1) else false

theorem fences_q (x : CmdR) (hx : x.ok) (H : List AObj) : QuietF Go.Proofs.Try.prog 41 [.agg x.cells] H (.bool (fencesB x.kind x.rule.kind)) := by
  refine ACallF.of hb_41 (acalls_body Try.func41 rfl ?_)
  intro hB hA
  rw [args0_41]
  repeat' (first
    | refine awp_seq_k (fun K hK => ?_)
    | refine awp_block ?_
    | (refine awp_region_w (by simp) (fun Q hQ => ?_); simp only [go_sem, Nat.reduceAdd, Nat.reduceMul, Nat.reduceLeDiff, Nat.reduceLT, Nat.reduceEqDiff, Int.reduceToNat, Int.reduceLE, Int.reduceLT])
    | (refine awp_region_q mixed (by kernel_rfl) (by kernel_rfl) rfl (by simp) (fun Q hQ => ?_); simp only [go_sem, Nat.reduceAdd, Nat.reduceMul, Nat.reduceLeDiff, Nat.reduceLT, Nat.reduceEqDiff, Int.reduceToNat, Int.reduceLE, Int.reduceLT])
    | (refine hQ _ _ ?_; clear hQ Q)
    | (refine hQ _ ?_; clear hQ Q)
    | refine awp_cond_true rfl ?_
    | refine awp_cond_false rfl ?_
    | refine awp_skip ?_
    | (refine awp_exit ?_; simp only [go_sem])
    | (refine awp_ret ?_; try simp only [inBlock_ret, andThen_ret])
    | (refine hK _ ?_; clear hK; clear K)
    | (clear hK K; refine hK _ ?_; clear hK; clear K)
    | refine And.intro (by first | assumption | omega | (simp; done)) ?_
    | (refine awp_cond _ rfl (fun hc => ?_) (fun hc => ?_) <;> (try simp only [Bool.not_eq_true', Bool.not_eq_false'] at hc) <;> (try simp only [hc]))
    | (refine gdW_split (fun hc => ?_) (fun hc => ?_) <;> (try simp only [Bool.not_eq_true', Bool.not_eq_false'] at hc) <;> simp only [go_sem, Nat.reduceAdd, Nat.reduceMul, Nat.reduceLeDiff, Nat.reduceLT, Nat.reduceEqDiff, Int.reduceToNat, Int.reduceLE, Int.reduceLT, hc])
    | (refine gdQ_split (fun hc => ?_) (fun hc => ?_) <;> (try simp only [Bool.not_eq_true', Bool.not_eq_false'] at hc) <;> simp only [go_sem, Nat.reduceAdd, Nat.reduceMul, Nat.reduceLeDiff, Nat.reduceLT, Nat.reduceEqDiff, Int.reduceToNat, Int.reduceLE, Int.reduceLT, hc]))
  all_goals
    first | refine end_quiet hB rfl ?_ (by simp) | refine end_quiet0 rfl ?_
    try clear hB hA
    try simp only [go_sem, fencesB, Bool.false_eq_true, if_false, if_true, *, Bool.true_and, Bool.and_true, Bool.false_and, Bool.and_false, Bool.or_true, Bool.true_or, Bool.false_or, Bool.or_false]

/-- Which texts a kind of command uses. -/
def usesL (k : Int) : Option (Bool × Bool × Bool × Bool) :=
  if k == 1 then some (true, false, false, false)
  else if k == 2 then some (true, false, false, false)
  else if k == 3 then some (true, true, false, false)
  else if k == 4 then some (true, true, false, false)
  else if k == 5 then some (true, true, false, false)
  else if k == 7 then some (true, true, false, false)
  else if k == 6 then some (true, true, true, false)
  else if k == 8 then some (true, true, true, false)
  else if k == 9 then some (true, true, false, true)
  else if k == 14 then some (true, true, false, true)
  else if k == 15 then some (true, true, false, true)
  else if k == 10 then some (false, false, false, true)
  else if k == 11 then some (false, false, false, true)
  else if k == 12 then some (false, false, true, true)
  else if k == 13 then some (false, false, true, true)
  else none

def usesA (o : Option (Bool × Bool × Bool × Bool)) : AV :=
  match o with
  | some (a, b, c, d) => .agg [.bool a, .bool b, .bool c, .bool d]
  | none => .agg [.bool false, .bool false, .bool false, .bool false]
theorem usesA_some (a b c d : Bool) : usesA (some (a, b, c, d)) = .agg [.bool a, .bool b, .bool c, .bool d] := rfl
theorem usesA_none : usesA none = .agg [.bool false, .bool false, .bool false, .bool false] := rfl

theorem used_q (x : CmdR) (H : List AObj) : QuietF Go.Proofs.Try.prog 34 [.agg x.cells] H
    (.tuple [.agg [.str x.schema, .str x.table, .str x.name, .str x.role], usesA (usesL x.kind), .bool (usesL x.kind).isSome]) := by
  refine ACallF.of hb_34 (acalls_body Try.func34 rfl ?_)
  intro hB hA
  rw [args0_34]
  repeat' (first
    | refine awp_seq_k (fun K hK => ?_)
    | refine awp_block ?_
    | (refine awp_region_w (by simp) (fun Q hQ => ?_); simp only [go_sem, Nat.reduceAdd, Nat.reduceMul, Nat.reduceLeDiff, Nat.reduceLT, Nat.reduceEqDiff, Int.reduceToNat, Int.reduceLE, Int.reduceLT])
    | (refine awp_region_q mixed (by kernel_rfl) (by kernel_rfl) rfl (by simp) (fun Q hQ => ?_); simp only [go_sem, Nat.reduceAdd, Nat.reduceMul, Nat.reduceLeDiff, Nat.reduceLT, Nat.reduceEqDiff, Int.reduceToNat, Int.reduceLE, Int.reduceLT])
    | (refine hQ _ _ ?_; clear hQ Q)
    | (refine hQ _ ?_; clear hQ Q)
    | refine awp_cond_true rfl ?_
    | refine awp_cond_false rfl ?_
    | refine awp_skip ?_
    | (refine awp_exit ?_; simp only [go_sem])
    | (refine awp_ret ?_; try simp only [inBlock_ret, andThen_ret])
    | (refine hK _ ?_; clear hK; clear K)
    | (clear hK K; refine hK _ ?_; clear hK; clear K)
    | refine And.intro (by first | assumption | omega | (simp; done)) ?_
    | (refine awp_cond _ rfl (fun hc => ?_) (fun hc => ?_) <;> (try simp only [Bool.not_eq_true', Bool.not_eq_false'] at hc) <;> (try simp only [hc]))
    | (refine gdW_split (fun hc => ?_) (fun hc => ?_) <;> (try simp only [Bool.not_eq_true', Bool.not_eq_false'] at hc) <;> simp only [go_sem, Nat.reduceAdd, Nat.reduceMul, Nat.reduceLeDiff, Nat.reduceLT, Nat.reduceEqDiff, Int.reduceToNat, Int.reduceLE, Int.reduceLT, hc])
    | (refine gdQ_split (fun hc => ?_) (fun hc => ?_) <;> (try simp only [Bool.not_eq_true', Bool.not_eq_false'] at hc) <;> simp only [go_sem, Nat.reduceAdd, Nat.reduceMul, Nat.reduceLeDiff, Nat.reduceLT, Nat.reduceEqDiff, Int.reduceToNat, Int.reduceLE, Int.reduceLT, hc]))
  all_goals
    refine end_quiet hB (by simp only [go_sem]; rfl) ?_ (by
      simp only [below_tuple, below_agg, below_bool, List.mem_cons, List.not_mem_nil, or_false, forall_eq_or_imp, forall_eq, below_str, usesA]
      split <;> simp)
    clear hB hA
    simp only [usesL, *, Bool.false_eq_true, if_false, if_true, usesA_some, usesA_none, Option.isSome]

def fieldB (u : Bool) (s : List UInt8) : Bool := if (u == !(s == [])) = true then (if u = true then nameB s else true) else false

def fieldsB (o : Option (Bool × Bool × Bool × Bool)) (x : CmdR) : Bool :=
  match o with
  | some (a, b, c, d) => fieldB a x.schema && (fieldB b x.table && (fieldB c x.name && fieldB d x.role))
  | none => false

def restB (x : CmdR) : Bool :=
  if x.kind == 3 then bareB x.rule && x.right == 0 && !x.option
  else if x.kind == 5 then bareB x.rule && x.right == 0 && !x.option && ((x.cols.length : Int) == 1)
  else if x.kind == 7 then ((x.cols.length : Int) == 0) && x.right == 0 && !x.option
  else if x.kind == 14 || x.kind == 15 then (x.right == 1 || x.right == 2) && bareB x.rule && ((x.cols.length : Int) == 0) && (x.kind == 14 || !x.option)
  else bareB x.rule && ((x.cols.length : Int) == 0) && x.right == 0 && !x.option

def mayB (x : CmdR) : Bool := (usesL x.kind).isSome && nameB x.actor && fieldsB (usesL x.kind) x && restB x

theorem tx_name {s : List UInt8} (h : tx s) : s.length ≤ 140737488351232 := h

theorem may_q (x : CmdR) (hx : x.ok) (H : List AObj) : QuietF Go.Proofs.Try.prog 12 [.agg x.cells] H (.bool (mayB x)) := by
  refine ACallF.of hb_12 (acalls_body Try.func12 rfl ?_)
  intro hB hA
  rw [args0_12]
  obtain ⟨h1, h2, h3, h4, h5, h6, h7⟩ := hx
  have hq := fun H => used_q x H
  cases hu : usesL x.kind with
  | none =>
    simp only [hu, usesA_none, Option.isSome] at hq
    repeat (first
      | refine awp_seq_k (fun K hK => ?_)
      | refine awp_block ?_
      | (refine awp_region_w (by simp) (fun Q hQ => ?_); simp only [go_sem, Nat.reduceAdd, Nat.reduceMul, Nat.reduceLeDiff, Nat.reduceLT, Nat.reduceEqDiff, Int.reduceToNat, Int.reduceLE, Int.reduceLT])
      | (refine awp_region_q mixed (by kernel_rfl) (by kernel_rfl) rfl (by simp) (fun Q hQ => ?_); simp only [go_sem, Nat.reduceAdd, Nat.reduceMul, Nat.reduceLeDiff, Nat.reduceLT, Nat.reduceEqDiff, Int.reduceToNat, Int.reduceLE, Int.reduceLT])
      | (refine callW_quiet (hq _) ?_; simp only [go_sem, Nat.reduceAdd, Nat.reduceMul, Nat.reduceLeDiff, Nat.reduceLT, Nat.reduceEqDiff, Int.reduceToNat, Int.reduceLE, Int.reduceLT])
      | (refine callQ_quiet (hq _) ?_; simp only [go_sem, Nat.reduceAdd, Nat.reduceMul, Nat.reduceLeDiff, Nat.reduceLT, Nat.reduceEqDiff, Int.reduceToNat, Int.reduceLE, Int.reduceLT])
      | (refine hQ _ _ ?_; clear hQ Q)
      | (refine hQ _ ?_; clear hQ Q)
      | refine awp_cond_true rfl ?_
      | refine awp_cond_false rfl ?_
      | refine awp_skip ?_
      | (refine awp_exit ?_; simp only [go_sem])
      | (refine awp_ret ?_; try simp only [inBlock_ret, andThen_ret])
      | (refine hK _ ?_; clear hK; clear K)
      | (clear hK K; refine hK _ ?_; clear hK; clear K)
      | refine And.intro (by first | assumption | omega | (simp; done)) ?_)
    all_goals
      first | refine end_quiet hB rfl ?_ (by simp) | refine end_quiet0 rfl ?_
      try clear hB hA
      try simp only [go_sem, mayB, hu, Option.isSome, *, Bool.true_and, Bool.and_true, Bool.false_and, Bool.and_false, Bool.or_true, Bool.true_or, Bool.false_or, Bool.or_false]
  | some u =>
    obtain ⟨a, b, c, d⟩ := u
    simp only [hu, usesA_some, Option.isSome] at hq
    repeat' (first
      | refine awp_seq_k (fun K hK => ?_)
      | refine awp_block ?_
      | (refine awp_region_w (by simp) (fun Q hQ => ?_); simp only [go_sem, Nat.reduceAdd, Nat.reduceMul, Nat.reduceLeDiff, Nat.reduceLT, Nat.reduceEqDiff, Int.reduceToNat, Int.reduceLE, Int.reduceLT])
      | (refine awp_region_q mixed (by kernel_rfl) (by kernel_rfl) rfl (by simp) (fun Q hQ => ?_); simp only [go_sem, Nat.reduceAdd, Nat.reduceMul, Nat.reduceLeDiff, Nat.reduceLT, Nat.reduceEqDiff, Int.reduceToNat, Int.reduceLE, Int.reduceLT])
      | (refine callW_quiet (hq _) ?_; simp only [go_sem, Nat.reduceAdd, Nat.reduceMul, Nat.reduceLeDiff, Nat.reduceLT, Nat.reduceEqDiff, Int.reduceToNat, Int.reduceLE, Int.reduceLT])
      | (refine callQ_quiet (hq _) ?_; simp only [go_sem, Nat.reduceAdd, Nat.reduceMul, Nat.reduceLeDiff, Nat.reduceLT, Nat.reduceEqDiff, Int.reduceToNat, Int.reduceLE, Int.reduceLT])
      | (refine callW_quiet (name_q x.actor h1 _) ?_; simp only [go_sem, Nat.reduceAdd, Nat.reduceMul, Nat.reduceLeDiff, Nat.reduceLT, Nat.reduceEqDiff, Int.reduceToNat, Int.reduceLE, Int.reduceLT])
      | (refine callQ_quiet (name_q x.actor h1 _) ?_; simp only [go_sem, Nat.reduceAdd, Nat.reduceMul, Nat.reduceLeDiff, Nat.reduceLT, Nat.reduceEqDiff, Int.reduceToNat, Int.reduceLE, Int.reduceLT])
      | (refine hQ _ _ ?_; clear hQ Q)
      | (refine hQ _ ?_; clear hQ Q)
      | refine awp_cond_true rfl ?_
      | refine awp_cond_false rfl ?_
      | refine awp_skip ?_
      | (refine awp_exit ?_; simp only [go_sem])
      | (refine awp_ret ?_; try simp only [inBlock_ret, andThen_ret])
      | (refine hK _ ?_; clear hK; clear K)
      | (clear hK K; refine hK _ ?_; clear hK; clear K)
      | refine And.intro (by first | assumption | omega | (simp; done)) ?_
      | (refine awp_cond _ rfl (fun hc => ?_) (fun hc => ?_) <;> (try simp only [Bool.not_eq_true', Bool.not_eq_false'] at hc) <;> (try simp only [hc]))
      | (refine gdW_split (fun hc => ?_) (fun hc => ?_) <;> (try simp only [Bool.not_eq_true', Bool.not_eq_false'] at hc) <;> simp only [go_sem, Nat.reduceAdd, Nat.reduceMul, Nat.reduceLeDiff, Nat.reduceLT, Nat.reduceEqDiff, Int.reduceToNat, Int.reduceLE, Int.reduceLT, hc])
      | (refine gdQ_split (fun hc => ?_) (fun hc => ?_) <;> (try simp only [Bool.not_eq_true', Bool.not_eq_false'] at hc) <;> simp only [go_sem, Nat.reduceAdd, Nat.reduceMul, Nat.reduceLeDiff, Nat.reduceLT, Nat.reduceEqDiff, Int.reduceToNat, Int.reduceLE, Int.reduceLT, hc]))
    · all_goals
        first | refine end_quiet hB rfl ?_ (by simp) | refine end_quiet0 rfl ?_
        try clear hB hA
        try simp only [go_sem, mayB, hu, Option.isSome, *, Bool.true_and, Bool.and_true, Bool.false_and, Bool.and_false, Bool.or_true, Bool.true_or, Bool.false_or, Bool.or_false]
    · refine awp_loop (fun n S => ∃ i : Nat, i ≤ 4 ∧ n = 4 - i ∧ (0 < i → fieldB a x.schema = true) ∧ (1 < i → fieldB b x.table = true) ∧ (2 < i → fieldB c x.name = true) ∧ (3 < i → fieldB d x.role = true) ∧
        S = ⟨[.agg x.cells, .ptr H.length 0, .bool false, .ptr (H.length + 1) 0, .ptr (H.length + 2) 0, .bool true, .junk, .junk, .junk, .junk, .junk, .junk, .junk, .junk, .junk, .junk, .junk, .junk, .junk, .junk, .junk, .junk, .junk, .agg [.str x.schema, .str x.table, .str x.name, .str x.role], .int .i64 (i : Int), .junk, .junk, .junk, .junk, .junk, .junk, .junk, .junk, .junk, .junk, .junk, .junk, .junk, .junk, .junk, .junk, .junk, .junk, .junk, .junk, .junk, .junk, .junk, .junk, .junk, .junk, .junk, .junk, .junk, .junk, .junk, .junk, .junk, .junk, .junk, .junk, .junk, .junk, .junk, .junk, .junk, .junk, .junk, .junk, .junk, .junk, .junk, .junk, .junk, .junk, .junk, .junk, .junk, .junk, .junk, .junk, .junk, .junk, .junk, .junk, .junk, .junk, .junk, .junk, .junk, .junk, .junk, .junk, .junk, .junk, .junk, .junk, .junk, .junk, .junk, .junk, .junk, .junk, .junk, .junk, .junk, .junk, .junk, .junk, .junk, .junk, .junk, .junk, .junk, .junk, .junk, .junk, .junk, .junk, .junk, .junk, .junk, .junk, .junk, .junk, .junk, .junk, .junk, .junk, .junk, .junk, .junk, .junk, .junk, .junk, .junk, .junk, .junk, .junk, .junk, .junk, .junk, .junk, .junk, .junk, .junk, .junk, .junk, .junk, .junk, .junk],
          H ++ [.var x.cells, .var [.str x.schema, .str x.table, .str x.name, .str x.role], .var [.bool a, .bool b, .bool c, .bool d]]⟩) ?_ ?_
      · refine ⟨4, _, weak_junk ?_, 0, by omega, rfl, by omega, by omega, by omega, by omega, rfl⟩
        simp [LeT, RuleR.cells, CmdR.cells]
      · rintro n S ⟨i, hi, rfl, k1, k2, k3, k4, rfl⟩
        obtain rfl | rfl | rfl | rfl | rfl : i = 0 ∨ i = 1 ∨ i = 2 ∨ i = 3 ∨ i = 4 := by omega
        all_goals simp only [Nat.reduceLT, forall_const, false_implies, Int.cast_ofNat_Int] at k1 k2 k3 k4
        all_goals
          repeat' (first
            | refine awp_seq_k (fun K hK => ?_)
            | refine awp_block ?_
            | (refine awp_region_w (by simp) (fun Q hQ => ?_); simp only [go_sem, Nat.reduceAdd, Nat.reduceMul, Nat.reduceLeDiff, Nat.reduceLT, Nat.reduceEqDiff, Int.reduceToNat, Int.reduceLE, Int.reduceLT])
            | (refine awp_region_q mixed (by kernel_rfl) (by kernel_rfl) rfl (by simp) (fun Q hQ => ?_); simp only [go_sem, Nat.reduceAdd, Nat.reduceMul, Nat.reduceLeDiff, Nat.reduceLT, Nat.reduceEqDiff, Int.reduceToNat, Int.reduceLE, Int.reduceLT])
            | (refine callW_quiet (name_q x.schema h2 _) ?_; simp only [go_sem, Nat.reduceAdd, Nat.reduceMul, Nat.reduceLeDiff, Nat.reduceLT, Nat.reduceEqDiff, Int.reduceToNat, Int.reduceLE, Int.reduceLT])
            | (refine callQ_quiet (name_q x.schema h2 _) ?_; simp only [go_sem, Nat.reduceAdd, Nat.reduceMul, Nat.reduceLeDiff, Nat.reduceLT, Nat.reduceEqDiff, Int.reduceToNat, Int.reduceLE, Int.reduceLT])
            | (refine callW_quiet (name_q x.table h3 _) ?_; simp only [go_sem, Nat.reduceAdd, Nat.reduceMul, Nat.reduceLeDiff, Nat.reduceLT, Nat.reduceEqDiff, Int.reduceToNat, Int.reduceLE, Int.reduceLT])
            | (refine callQ_quiet (name_q x.table h3 _) ?_; simp only [go_sem, Nat.reduceAdd, Nat.reduceMul, Nat.reduceLeDiff, Nat.reduceLT, Nat.reduceEqDiff, Int.reduceToNat, Int.reduceLE, Int.reduceLT])
            | (refine callW_quiet (name_q x.name h4 _) ?_; simp only [go_sem, Nat.reduceAdd, Nat.reduceMul, Nat.reduceLeDiff, Nat.reduceLT, Nat.reduceEqDiff, Int.reduceToNat, Int.reduceLE, Int.reduceLT])
            | (refine callQ_quiet (name_q x.name h4 _) ?_; simp only [go_sem, Nat.reduceAdd, Nat.reduceMul, Nat.reduceLeDiff, Nat.reduceLT, Nat.reduceEqDiff, Int.reduceToNat, Int.reduceLE, Int.reduceLT])
            | (refine callW_quiet (name_q x.role h5 _) ?_; simp only [go_sem, Nat.reduceAdd, Nat.reduceMul, Nat.reduceLeDiff, Nat.reduceLT, Nat.reduceEqDiff, Int.reduceToNat, Int.reduceLE, Int.reduceLT])
            | (refine callQ_quiet (name_q x.role h5 _) ?_; simp only [go_sem, Nat.reduceAdd, Nat.reduceMul, Nat.reduceLeDiff, Nat.reduceLT, Nat.reduceEqDiff, Int.reduceToNat, Int.reduceLE, Int.reduceLT])
            | (refine callW_quiet (bare_q x.rule h7 _) ?_; simp only [go_sem, Nat.reduceAdd, Nat.reduceMul, Nat.reduceLeDiff, Nat.reduceLT, Nat.reduceEqDiff, Int.reduceToNat, Int.reduceLE, Int.reduceLT])
            | (refine callQ_quiet (bare_q x.rule h7 _) ?_; simp only [go_sem, Nat.reduceAdd, Nat.reduceMul, Nat.reduceLeDiff, Nat.reduceLT, Nat.reduceEqDiff, Int.reduceToNat, Int.reduceLE, Int.reduceLT])
            | (refine hQ _ _ ?_; clear hQ Q)
            | (refine hQ _ ?_; clear hQ Q)
            | refine awp_cond_true rfl ?_
            | refine awp_cond_false rfl ?_
            | refine awp_skip ?_
            | (refine awp_exit ?_; simp only [go_sem])
            | (refine awp_ret ?_; try simp only [inBlock_ret, andThen_ret])
            | (refine hK _ ?_; clear hK; clear K)
            | (clear hK K; refine hK _ ?_; clear hK; clear K)
            | refine And.intro (by first | assumption | omega | (simp; done)) ?_
            | (refine awp_cond _ rfl (fun hc => ?_) (fun hc => ?_) <;> (try simp only [Bool.not_eq_true', Bool.not_eq_false'] at hc) <;> (try simp only [hc]))
            | (refine gdW_split (fun hc => ?_) (fun hc => ?_) <;> (try simp only [Bool.not_eq_true', Bool.not_eq_false'] at hc) <;> simp only [go_sem, Nat.reduceAdd, Nat.reduceMul, Nat.reduceLeDiff, Nat.reduceLT, Nat.reduceEqDiff, Int.reduceToNat, Int.reduceLE, Int.reduceLT, hc])
            | (refine gdQ_split (fun hc => ?_) (fun hc => ?_) <;> (try simp only [Bool.not_eq_true', Bool.not_eq_false'] at hc) <;> simp only [go_sem, Nat.reduceAdd, Nat.reduceMul, Nat.reduceLeDiff, Nat.reduceLT, Nat.reduceEqDiff, Int.reduceToNat, Int.reduceLE, Int.reduceLT, hc]))
        all_goals first
          | exact absurd (‹(x.kind == 14) = true›.symm.trans ‹(x.kind == 14) = false›) (by decide)
          | (rw [andThen_normal]; subst_vars; refine ⟨4 - 1, by omega, _, weak_junk ?_, 1, by omega, rfl, by first | omega | (intro _; first | assumption | (simp only [fieldB, *, Bool.false_eq_true, if_false, if_true]; done)), by first | omega | (intro _; first | assumption | (simp only [fieldB, *, Bool.false_eq_true, if_false, if_true]; done)), by first | omega | (intro _; first | assumption | (simp only [fieldB, *, Bool.false_eq_true, if_false, if_true]; done)), by first | omega | (intro _; first | assumption | (simp only [fieldB, *, Bool.false_eq_true, if_false, if_true]; done)), rfl⟩; simp [LeT, RuleR.cells, CmdR.cells] <;> rfl)
          | (rw [andThen_normal]; subst_vars; refine ⟨4 - 2, by omega, _, weak_junk ?_, 2, by omega, rfl, by first | omega | (intro _; first | assumption | (simp only [fieldB, *, Bool.false_eq_true, if_false, if_true]; done)), by first | omega | (intro _; first | assumption | (simp only [fieldB, *, Bool.false_eq_true, if_false, if_true]; done)), by first | omega | (intro _; first | assumption | (simp only [fieldB, *, Bool.false_eq_true, if_false, if_true]; done)), by first | omega | (intro _; first | assumption | (simp only [fieldB, *, Bool.false_eq_true, if_false, if_true]; done)), rfl⟩; simp [LeT, RuleR.cells, CmdR.cells] <;> rfl)
          | (rw [andThen_normal]; subst_vars; refine ⟨4 - 3, by omega, _, weak_junk ?_, 3, by omega, rfl, by first | omega | (intro _; first | assumption | (simp only [fieldB, *, Bool.false_eq_true, if_false, if_true]; done)), by first | omega | (intro _; first | assumption | (simp only [fieldB, *, Bool.false_eq_true, if_false, if_true]; done)), by first | omega | (intro _; first | assumption | (simp only [fieldB, *, Bool.false_eq_true, if_false, if_true]; done)), by first | omega | (intro _; first | assumption | (simp only [fieldB, *, Bool.false_eq_true, if_false, if_true]; done)), rfl⟩; simp [LeT, RuleR.cells, CmdR.cells] <;> rfl)
          | (rw [andThen_normal]; subst_vars; refine ⟨4 - 4, by omega, _, weak_junk ?_, 4, by omega, rfl, by first | omega | (intro _; first | assumption | (simp only [fieldB, *, Bool.false_eq_true, if_false, if_true]; done)), by first | omega | (intro _; first | assumption | (simp only [fieldB, *, Bool.false_eq_true, if_false, if_true]; done)), by first | omega | (intro _; first | assumption | (simp only [fieldB, *, Bool.false_eq_true, if_false, if_true]; done)), by first | omega | (intro _; first | assumption | (simp only [fieldB, *, Bool.false_eq_true, if_false, if_true]; done)), rfl⟩; simp [LeT, RuleR.cells, CmdR.cells] <;> rfl)
          | (refine end_quiet hB rfl ?_ (by simp)
             clear hB hA hq
             subst_vars
             first
             | (simp only [go_sem, mayB, hu, Option.isSome, fieldsB, restB, *, Bool.true_and, Bool.and_true, Bool.false_and, Bool.and_false, Bool.or_true, Bool.true_or, Bool.false_or, Bool.or_false, Bool.not_true, Bool.not_false, Bool.false_eq_true, if_false, if_true, beq_true, List.length_map]; done)
             | (simp only [go_sem, mayB, hu, Option.isSome, fieldsB, restB, fieldB, *, Bool.true_and, Bool.and_true, Bool.false_and, Bool.and_false, Bool.or_true, Bool.true_or, Bool.false_or, Bool.or_false, Bool.not_true, Bool.not_false, Bool.false_eq_true, if_false, if_true, beq_true, List.length_map]))
          | trace_state

theorem fencing_q (x : CmdR) (hx : x.ok) (H : List AObj) : QuietF Go.Proofs.Try.prog 14 [.agg x.cells] H (.bool (mayB x && fencesB x.kind x.rule.kind)) := by
  refine ACallF.of hb_14 (acalls_body Try.func14 rfl ?_)
  intro hB hA
  rw [args0_14]
  repeat' (first
    | refine awp_seq_k (fun K hK => ?_)
    | refine awp_block ?_
    | (refine awp_region_w (by simp) (fun Q hQ => ?_); simp only [go_sem, Nat.reduceAdd, Nat.reduceMul, Nat.reduceLeDiff, Nat.reduceLT, Nat.reduceEqDiff, Int.reduceToNat, Int.reduceLE, Int.reduceLT])
    | (refine awp_region_q mixed (by kernel_rfl) (by kernel_rfl) rfl (by simp) (fun Q hQ => ?_); simp only [go_sem, Nat.reduceAdd, Nat.reduceMul, Nat.reduceLeDiff, Nat.reduceLT, Nat.reduceEqDiff, Int.reduceToNat, Int.reduceLE, Int.reduceLT])
    | (refine callW_quiet (may_q x hx _) ?_; simp only [go_sem, Nat.reduceAdd, Nat.reduceMul, Nat.reduceLeDiff, Nat.reduceLT, Nat.reduceEqDiff, Int.reduceToNat, Int.reduceLE, Int.reduceLT])
    | (refine callQ_quiet (may_q x hx _) ?_; simp only [go_sem, Nat.reduceAdd, Nat.reduceMul, Nat.reduceLeDiff, Nat.reduceLT, Nat.reduceEqDiff, Int.reduceToNat, Int.reduceLE, Int.reduceLT])
    | (refine callW_quiet (fences_q x hx _) ?_; simp only [go_sem, Nat.reduceAdd, Nat.reduceMul, Nat.reduceLeDiff, Nat.reduceLT, Nat.reduceEqDiff, Int.reduceToNat, Int.reduceLE, Int.reduceLT])
    | (refine callQ_quiet (fences_q x hx _) ?_; simp only [go_sem, Nat.reduceAdd, Nat.reduceMul, Nat.reduceLeDiff, Nat.reduceLT, Nat.reduceEqDiff, Int.reduceToNat, Int.reduceLE, Int.reduceLT])
    | (refine hQ _ _ ?_; clear hQ Q)
    | (refine hQ _ ?_; clear hQ Q)
    | refine awp_cond_true rfl ?_
    | refine awp_cond_false rfl ?_
    | refine awp_skip ?_
    | (refine awp_exit ?_; simp only [go_sem])
    | (refine awp_ret ?_; try simp only [inBlock_ret, andThen_ret])
    | (refine hK _ ?_; clear hK; clear K)
    | (clear hK K; refine hK _ ?_; clear hK; clear K)
    | refine And.intro (by first | assumption | omega | (simp; done)) ?_
    | (refine awp_cond _ rfl (fun hc => ?_) (fun hc => ?_) <;> (try simp only [Bool.not_eq_true', Bool.not_eq_false'] at hc) <;> (try simp only [hc]))
    | (refine gdW_split (fun hc => ?_) (fun hc => ?_) <;> (try simp only [Bool.not_eq_true', Bool.not_eq_false'] at hc) <;> simp only [go_sem, Nat.reduceAdd, Nat.reduceMul, Nat.reduceLeDiff, Nat.reduceLT, Nat.reduceEqDiff, Int.reduceToNat, Int.reduceLE, Int.reduceLT, hc])
    | (refine gdQ_split (fun hc => ?_) (fun hc => ?_) <;> (try simp only [Bool.not_eq_true', Bool.not_eq_false'] at hc) <;> simp only [go_sem, Nat.reduceAdd, Nat.reduceMul, Nat.reduceLeDiff, Nat.reduceLT, Nat.reduceEqDiff, Int.reduceToNat, Int.reduceLE, Int.reduceLT, hc]))
  all_goals
    first | refine end_quiet hB rfl ?_ (by simp) | refine end_quiet0 rfl ?_
    try clear hB hA
    try simp only [go_sem, eq_self, *, Bool.true_and, Bool.and_true, Bool.false_and, Bool.and_false, Bool.or_true, Bool.true_or, Bool.false_or, Bool.or_false]

end Go.Proofs.Ytkohfilgoicghaa.Abs
