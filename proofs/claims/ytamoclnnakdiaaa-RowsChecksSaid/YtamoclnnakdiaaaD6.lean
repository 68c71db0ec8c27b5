/-
  The reference's Key and Turn.
  Conditions: none.
-/
import Derived.Test.YtamoclnnakdiaaaD5
namespace Go.Proofs.Ytamoclnnakdiaaa.Abs
open Go Go.RowKit
set_option linter.unusedVariables false
set_option maxRecDepth 100000
set_option maxHeartbeats 4000000
set_option linter.unusedSimpArgs false

def val0 : ValR := ⟨0, 0, []⟩
theorem valOf_mem {l : List ColR} {row : List ValR} {s : List UInt8} (hlen : l.length = row.length) (h : 0 ≤ idxOf (fun c => c.name == s) l) : valOf l row s ∈ row := by
  have h1 := idxOf_lt (p := fun c : ColR => c.name == s) (l := l)
  have h2 : (idxOf (fun c => c.name == s) l).toNat < row.length := by omega
  unfold valOf
  rw [List.getElem?_eq_getElem h2, Option.getD_some]
  exact List.getElem_mem _

theorem allP_val {l : List ColR} {row : List ValR} (h : allP formP l row = true) : ∀ v, v ∈ row → valB v = true := by
  induction l generalizing row with
  | nil =>
    cases row with
    | nil => intro v hv; cases hv
    | cons _ _ => simp [allP] at h
  | cons c l ih =>
    cases row with
    | nil => simp [allP] at h
    | cons w row =>
      simp only [allP, Bool.and_eq_true] at h
      intro v hv
      rcases List.mem_cons.1 hv with rfl | hv
      · unfold formP at h
        simp only [Bool.and_eq_true] at h
        exact h.1.1
      · exact ih h.2 v hv

theorem whole_eq {l : List ValR} (h : ∀ v, v ∈ l → valB v = true) : (!decide (0 ≤ idxOf (fun w => ValR.eq ⟨1, 0, []⟩ w) l)) = wholeL l := by
  rw [idxOf_any]
  unfold wholeL
  induction l with
  | nil => rfl
  | cons v l ih =>
    simp only [List.any_cons, List.all_cons]
    rw [Bool.not_or, ih (fun w hw => h w (by simp [hw]))]
    congr 2
    have hv := h v (by simp)
    unfold valB at hv
    unfold ValR.eq
    by_cases h1 : v.kind = 1
    · simp only [h1, Int.reduceBEq, Bool.false_eq_true, if_false, if_true, Bool.and_eq_true, beq_iff_eq] at hv
      simp [h1, hv.1, hv.2]
    · have h2 : ((1 : Int) == v.kind) = false := by simp only [beq_eq_false_iff_ne, ne_eq]; omega
      have h3 : (v.kind == (1 : Int)) = false := by simp only [beq_eq_false_iff_ne, ne_eq]; omega
      simp [h2, h3]

theorem refKey_q (t : TableR) (rule : List UInt8) (row : List ValR) (ht : t.fit) (H : List AObj) : QuietF Go.Proofs.Try.prog 26 [TableR.av t, .str rule, .fz (row.map ValR.av)] H
    (.tuple [.fz ((keyV t rule row).1.map ValR.av), .bool (keyV t rule row).2.1, .int .i64 (keyV t rule row).2.2]) := by
  refine ACallF.of hb_26 (acalls_body Try.func26 rfl ?_)
  intro hB hA
  rw [args0_26]
  have ht' := ht
  obtain ⟨t1, t2, t3, t4, t5, t6, t7⟩ := ht'
  have hri := (alone_right t).symm
  have hix := idxOf_lt (p := fun r : RuleR => r.name == rule) (l := t.rules)
  cases ha0 : aloneB t with
  | false =>
    rw [ha0] at hri
    have hv : keyV t rule row = ([], false, 1) := by simp [keyV, ha0]
    rw [hv]
    repeat' (first
      | ((with_reducible first | refine isWL ?_ | refine isGW ?_ | refine isWQ ?_ | refine isGQ ?_); (first | simp only [go_sem, Nat.reduceAdd, Nat.reduceMul, Nat.reduceLeDiff, Nat.reduceLT, Nat.reduceEqDiff, Int.reduceToNat, Int.reduceLE, Int.reduceLT, List.forall_mem_cons, List.not_mem_nil, false_implies, implies_true, hri, Bool.not_false, hc] | simp only [go_sem, Nat.reduceAdd, Nat.reduceMul, Nat.reduceLeDiff, Nat.reduceLT, Nat.reduceEqDiff, Int.reduceToNat, Int.reduceLE, Int.reduceLT, List.forall_mem_cons, List.not_mem_nil, false_implies, implies_true, hri, Bool.not_false]))
      | refine awp_seq_k (fun K hK => ?_)
      | refine awp_block ?_
      | refine awp_region_w (by first | (simp; done) | assumption | (simp; omega)) (fun Q hQ => ?_)
      | refine awp_region_q mixed (by kernel_rfl) (by kernel_rfl) rfl (by first | (simp; done) | assumption | (simp; omega)) (fun Q hQ => ?_)
      | refine callW_quiet (refRight_q t ht _) ?_
      | refine callQ_quiet (refRight_q t ht _) ?_
      | refine Both.mk ?_ ?_
      | (refine hQ _ _ ?_; clear hQ Q)
      | (refine hQ _ ?_; clear hQ Q)
      | refine awp_cond_true rfl ?_
      | refine awp_cond_false rfl ?_
      | refine awp_skip ?_
      | (refine awp_exit ?_; simp only [go_sem, Nat.reduceEqDiff])
      | (refine awp_ret ?_; try simp only [inBlock_ret, andThen_ret])
      | ((first | refine hK _ ?_ | (clear hK K; refine hK _ ?_) | (clear hK K; clear hK K; refine hK _ ?_) | (clear hK K; clear hK K; clear hK K; refine hK _ ?_) | (clear hK K; clear hK K; clear hK K; clear hK K; refine hK _ ?_) | (clear hK K; clear hK K; clear hK K; clear hK K; clear hK K; refine hK _ ?_) | (clear hK K; clear hK K; clear hK K; clear hK K; clear hK K; clear hK K; refine hK _ ?_)); clear hK; clear K)
      | refine And.intro (by first | assumption | omega | trivial | rfl | (simp; done)) ?_
      | (refine awp_cond _ rfl (fun hc => ?_) (fun hc => ?_) <;> (try simp only [Bool.not_eq_true', Bool.not_eq_false'] at hc) <;> (try simp only [hc]))
      | (refine gdW_split (fun hc => ?_) (fun hc => ?_) <;> (try simp only [Bool.not_eq_true', Bool.not_eq_false'] at hc))
      | (refine gdQ_split (fun hc => ?_) (fun hc => ?_) <;> (try simp only [Bool.not_eq_true', Bool.not_eq_false'] at hc)))
    exact end_nilfz hB (by first | (simp only [go_sem]; done) | (simp only [go_sem]; rfl) | rfl) rfl (by simp)
  | true =>
    rw [ha0] at hri
    by_cases h0 : 0 ≤ idxOf (fun r => r.name == rule) t.rules
    · have hd0 : decide (idxOf (fun r => r.name == rule) t.rules < 0) = false := by simpa using h0
      obtain ⟨r, hr0⟩ : ∃ r, t.rules[(idxOf (fun r => r.name == rule) t.rules).toNat]? = some r := ⟨_, List.getElem?_eq_getElem (by omega)⟩
      have hlr := look_map (g := RuleR.av) hr0
      have hrm := List.mem_of_getElem? hr0
      have hr6 := t6 r hrm
      cases hf0 : allP formP t.cols row with
      | false =>
        have hv : keyV t rule row = ([], false, 100) := by simp [keyV, ha0, hr0, h0, hf0]
        rw [hv]
        repeat' (first
          | ((with_reducible first | refine isWL ?_ | refine isGW ?_ | refine isWQ ?_ | refine isGQ ?_); (first | simp only [go_sem, Nat.reduceAdd, Nat.reduceMul, Nat.reduceLeDiff, Nat.reduceLT, Nat.reduceEqDiff, Int.reduceToNat, Int.reduceLE, Int.reduceLT, List.forall_mem_cons, List.not_mem_nil, false_implies, implies_true, hri, hf0, hd0, Bool.not_true, Bool.not_false, hc] | simp only [go_sem, Nat.reduceAdd, Nat.reduceMul, Nat.reduceLeDiff, Nat.reduceLT, Nat.reduceEqDiff, Int.reduceToNat, Int.reduceLE, Int.reduceLT, List.forall_mem_cons, List.not_mem_nil, false_implies, implies_true, hri, hf0, hd0, Bool.not_true, Bool.not_false]))
          | refine awp_seq_k (fun K hK => ?_)
          | refine awp_block ?_
          | refine awp_region_w (by first | (simp; done) | assumption | (simp; omega)) (fun Q hQ => ?_)
          | refine awp_region_q mixed (by kernel_rfl) (by kernel_rfl) rfl (by first | (simp; done) | assumption | (simp; omega)) (fun Q hQ => ?_)
          | refine callW_quiet (refRight_q t ht _) ?_
          | refine callQ_quiet (refRight_q t ht _) ?_
          | refine callW_quiet (refForm_q t.cols row (by omega) _) ?_
          | refine callQ_quiet (refForm_q t.cols row (by omega) _) ?_
          | refine callW_quiet (refRule_q t.rules rule (by omega) _) ?_
          | refine callQ_quiet (refRule_q t.rules rule (by omega) _) ?_
          | refine Both.mk ?_ ?_
          | (refine hQ _ _ ?_; clear hQ Q)
          | (refine hQ _ ?_; clear hQ Q)
          | refine awp_cond_true rfl ?_
          | refine awp_cond_false rfl ?_
          | refine awp_skip ?_
          | (refine awp_exit ?_; simp only [go_sem, Nat.reduceEqDiff])
          | (refine awp_ret ?_; try simp only [inBlock_ret, andThen_ret])
          | ((first | refine hK _ ?_ | (clear hK K; refine hK _ ?_) | (clear hK K; clear hK K; refine hK _ ?_) | (clear hK K; clear hK K; clear hK K; refine hK _ ?_) | (clear hK K; clear hK K; clear hK K; clear hK K; refine hK _ ?_) | (clear hK K; clear hK K; clear hK K; clear hK K; clear hK K; refine hK _ ?_) | (clear hK K; clear hK K; clear hK K; clear hK K; clear hK K; clear hK K; refine hK _ ?_)); clear hK; clear K)
          | refine And.intro (by first | assumption | omega | trivial | rfl | (simp; done)) ?_
          | (refine awp_cond _ rfl (fun hc => ?_) (fun hc => ?_) <;> (try simp only [Bool.not_eq_true', Bool.not_eq_false'] at hc) <;> (try simp only [hc]))
          | (refine gdW_split (fun hc => ?_) (fun hc => ?_) <;> (try simp only [Bool.not_eq_true', Bool.not_eq_false'] at hc))
          | (refine gdQ_split (fun hc => ?_) (fun hc => ?_) <;> (try simp only [Bool.not_eq_true', Bool.not_eq_false'] at hc)))
        exact end_nilfz hB (by first | (simp only [go_sem]; done) | (simp only [go_sem]; rfl) | rfl) rfl (by simp)
      | true =>
        have hlen := allP_eq_len hf0
        have hfit := alone_rule ha0 hrm
        have hcs := (fits_cols hfit).2
        rw [aloneRule_cols] at hcs
        have hw := whole_eq (l := r.cols.map (valOf t.cols row)) (fun v hv => by
          obtain ⟨s, hs, rfl⟩ := List.mem_map.1 hv
          exact allP_val hf0 _ (valOf_mem hlen (hcs s hs)))
        have hv : keyV t rule row = (r.cols.map (valOf t.cols row), wholeL (r.cols.map (valOf t.cols row)), 0) := by
          rw [← hw]
          simp [keyV, ha0, hr0, h0, hf0]
        rw [hv]
        repeat' (first
          | ((with_reducible first | refine isWL ?_ | refine isGW ?_ | refine isWQ ?_ | refine isGQ ?_); (first | simp only [go_sem, Nat.reduceAdd, Nat.reduceMul, Nat.reduceLeDiff, Nat.reduceLT, Nat.reduceEqDiff, Int.reduceToNat, Int.reduceLE, Int.reduceLT, List.forall_mem_cons, List.not_mem_nil, false_implies, implies_true, hri, hf0, hd0, h0, hix, hlr, Bool.not_true, Bool.not_false, List.length_map, hc] | simp only [go_sem, Nat.reduceAdd, Nat.reduceMul, Nat.reduceLeDiff, Nat.reduceLT, Nat.reduceEqDiff, Int.reduceToNat, Int.reduceLE, Int.reduceLT, List.forall_mem_cons, List.not_mem_nil, false_implies, implies_true, hri, hf0, hd0, h0, hix, hlr, Bool.not_true, Bool.not_false, List.length_map]))
          | refine awp_seq_k (fun K hK => ?_)
          | refine awp_block ?_
          | refine awp_region_w (by first | (simp; done) | assumption | (simp; omega)) (fun Q hQ => ?_)
          | refine awp_region_q mixed (by kernel_rfl) (by kernel_rfl) rfl (by first | (simp; done) | assumption | (simp; omega)) (fun Q hQ => ?_)
          | refine callW_quiet (refRight_q t ht _) ?_
          | refine callQ_quiet (refRight_q t ht _) ?_
          | refine callW_quiet (refForm_q t.cols row (by omega) _) ?_
          | refine callQ_quiet (refForm_q t.cols row (by omega) _) ?_
          | refine callW_quiet (refRule_q t.rules rule (by omega) _) ?_
          | refine callQ_quiet (refRule_q t.rules rule (by omega) _) ?_
          | refine callW_quiet (refOf_q t.cols r.cols row (by omega) hr6.2 hlen hcs _) ?_
          | refine callQ_quiet (refOf_q t.cols r.cols row (by omega) hr6.2 hlen hcs _) ?_
          | refine Both.mk ?_ ?_
          | (refine hQ _ _ ?_; clear hQ Q)
          | (refine hQ _ ?_; clear hQ Q)
          | refine awp_cond_true rfl ?_
          | refine awp_cond_false rfl ?_
          | refine awp_skip ?_
          | (refine awp_exit ?_; simp only [go_sem, Nat.reduceEqDiff])
          | (refine awp_ret ?_; try simp only [inBlock_ret, andThen_ret])
          | ((first | refine hK _ ?_ | (clear hK K; refine hK _ ?_) | (clear hK K; clear hK K; refine hK _ ?_) | (clear hK K; clear hK K; clear hK K; refine hK _ ?_) | (clear hK K; clear hK K; clear hK K; clear hK K; refine hK _ ?_) | (clear hK K; clear hK K; clear hK K; clear hK K; clear hK K; refine hK _ ?_) | (clear hK K; clear hK K; clear hK K; clear hK K; clear hK K; clear hK K; refine hK _ ?_)); clear hK; clear K)
          | refine And.intro (by first | assumption | omega | trivial | rfl | (simp; done)) ?_
          | (refine awp_cond _ rfl (fun hc => ?_) (fun hc => ?_) <;> (try simp only [Bool.not_eq_true', Bool.not_eq_false'] at hc) <;> (try simp only [hc]))
          | (refine gdW_split (fun hc => ?_) (fun hc => ?_) <;> (try simp only [Bool.not_eq_true', Bool.not_eq_false'] at hc))
          | (refine gdQ_split (fun hc => ?_) (fun hc => ?_) <;> (try simp only [Bool.not_eq_true', Bool.not_eq_false'] at hc)))
        exact end_quiet hB (by first | (simp only [go_sem]; done) | (simp only [go_sem]; rfl) | rfl) rfl (by simp)
    · have hd0 : decide (idxOf (fun r => r.name == rule) t.rules < 0) = true := by simpa using h0
      have hv : keyV t rule row = ([], false, 61) := by
        simp only [keyV, ha0, if_true]
        cases hq : t.rules[(idxOf (fun r => r.name == rule) t.rules).toNat]? <;> simp [h0]
      rw [hv]
      repeat' (first
        | ((with_reducible first | refine isWL ?_ | refine isGW ?_ | refine isWQ ?_ | refine isGQ ?_); (first | simp only [go_sem, Nat.reduceAdd, Nat.reduceMul, Nat.reduceLeDiff, Nat.reduceLT, Nat.reduceEqDiff, Int.reduceToNat, Int.reduceLE, Int.reduceLT, List.forall_mem_cons, List.not_mem_nil, false_implies, implies_true, hri, hd0, Bool.not_true, Bool.not_false, hc] | simp only [go_sem, Nat.reduceAdd, Nat.reduceMul, Nat.reduceLeDiff, Nat.reduceLT, Nat.reduceEqDiff, Int.reduceToNat, Int.reduceLE, Int.reduceLT, List.forall_mem_cons, List.not_mem_nil, false_implies, implies_true, hri, hd0, Bool.not_true, Bool.not_false]))
        | refine awp_seq_k (fun K hK => ?_)
        | refine awp_block ?_
        | refine awp_region_w (by first | (simp; done) | assumption | (simp; omega)) (fun Q hQ => ?_)
        | refine awp_region_q mixed (by kernel_rfl) (by kernel_rfl) rfl (by first | (simp; done) | assumption | (simp; omega)) (fun Q hQ => ?_)
        | refine callW_quiet (refRight_q t ht _) ?_
        | refine callQ_quiet (refRight_q t ht _) ?_
        | refine callW_quiet (refRule_q t.rules rule (by omega) _) ?_
        | refine callQ_quiet (refRule_q t.rules rule (by omega) _) ?_
        | refine Both.mk ?_ ?_
        | (refine hQ _ _ ?_; clear hQ Q)
        | (refine hQ _ ?_; clear hQ Q)
        | refine awp_cond_true rfl ?_
        | refine awp_cond_false rfl ?_
        | refine awp_skip ?_
        | (refine awp_exit ?_; simp only [go_sem, Nat.reduceEqDiff])
        | (refine awp_ret ?_; try simp only [inBlock_ret, andThen_ret])
        | ((first | refine hK _ ?_ | (clear hK K; refine hK _ ?_) | (clear hK K; clear hK K; refine hK _ ?_) | (clear hK K; clear hK K; clear hK K; refine hK _ ?_) | (clear hK K; clear hK K; clear hK K; clear hK K; refine hK _ ?_) | (clear hK K; clear hK K; clear hK K; clear hK K; clear hK K; refine hK _ ?_) | (clear hK K; clear hK K; clear hK K; clear hK K; clear hK K; clear hK K; refine hK _ ?_)); clear hK; clear K)
        | refine And.intro (by first | assumption | omega | trivial | rfl | (simp; done)) ?_
        | (refine awp_cond _ rfl (fun hc => ?_) (fun hc => ?_) <;> (try simp only [Bool.not_eq_true', Bool.not_eq_false'] at hc) <;> (try simp only [hc]))
        | (refine gdW_split (fun hc => ?_) (fun hc => ?_) <;> (try simp only [Bool.not_eq_true', Bool.not_eq_false'] at hc))
        | (refine gdQ_split (fun hc => ?_) (fun hc => ?_) <;> (try simp only [Bool.not_eq_true', Bool.not_eq_false'] at hc)))
      exact end_nilfz hB (by first | (simp only [go_sem]; done) | (simp only [go_sem]; rfl) | rfl) rfl (by simp)

theorem alone_cols (l : List ColR) : aloneB (tabOf l) = colsB l := by
  rw [alone_right]
  simp [rightT, tabOf, rulesR]

theorem refTurn_q (l to : List ColR) (row : List ValR) (h1 : ∀ c, c ∈ l → tx c.name) (h2 : l.length ≤ 10000000) (h3 : ∀ c, c ∈ to → tx c.name) (h4 : to.length ≤ 10000000) (H : List AObj) :
    QuietF Go.Proofs.Try.prog 20 [.fz (l.map ColR.av), .fz (to.map ColR.av), .fz (row.map ValR.av)] H (.tuple [.fz ((turnV l to row).1.map ValR.av), .int .i64 (turnV l to row).2]) := by
  refine ACallF.of hb_20 (acalls_body Try.func20 rfl ?_)
  intro hB hA
  rw [args0_20]
  have e1 := alone_cols l
  have e2 := alone_cols to
  cases ha : colsB l with
  | false =>
    have hv : turnV l to row = ([], 1) := by simp [turnV, e1, ha]
    rw [hv]
    repeat' (first
      | ((with_reducible first | refine isWL ?_ | refine isGW ?_ | refine isWQ ?_ | refine isGQ ?_); (first | simp only [go_sem, Nat.reduceAdd, Nat.reduceMul, Nat.reduceLeDiff, Nat.reduceLT, Nat.reduceEqDiff, Int.reduceToNat, Int.reduceLE, Int.reduceLT, List.forall_mem_cons, List.not_mem_nil, false_implies, implies_true, ha, Bool.not_false, hc] | simp only [go_sem, Nat.reduceAdd, Nat.reduceMul, Nat.reduceLeDiff, Nat.reduceLT, Nat.reduceEqDiff, Int.reduceToNat, Int.reduceLE, Int.reduceLT, List.forall_mem_cons, List.not_mem_nil, false_implies, implies_true, ha, Bool.not_false]))
      | refine awp_seq_k (fun K hK => ?_)
      | refine awp_block ?_
      | refine awp_region_w (by first | (simp; done) | assumption | (simp; omega)) (fun Q hQ => ?_)
      | refine awp_region_q mixed (by kernel_rfl) (by kernel_rfl) rfl (by first | (simp; done) | assumption | (simp; omega)) (fun Q hQ => ?_)
      | refine callW_quiet (refColumns_q l h1 (by omega) _) ?_
      | refine callQ_quiet (refColumns_q l h1 (by omega) _) ?_
      | refine Both.mk ?_ ?_
      | (refine hQ _ _ ?_; clear hQ Q)
      | (refine hQ _ ?_; clear hQ Q)
      | refine awp_cond_true rfl ?_
      | refine awp_cond_false rfl ?_
      | refine awp_skip ?_
      | (refine awp_exit ?_; simp only [go_sem, Nat.reduceEqDiff])
      | (refine awp_ret ?_; try simp only [inBlock_ret, andThen_ret])
      | ((first | refine hK _ ?_ | (clear hK K; refine hK _ ?_) | (clear hK K; clear hK K; refine hK _ ?_) | (clear hK K; clear hK K; clear hK K; refine hK _ ?_) | (clear hK K; clear hK K; clear hK K; clear hK K; refine hK _ ?_) | (clear hK K; clear hK K; clear hK K; clear hK K; clear hK K; refine hK _ ?_) | (clear hK K; clear hK K; clear hK K; clear hK K; clear hK K; clear hK K; refine hK _ ?_)); clear hK; clear K)
      | refine And.intro (by first | assumption | omega | trivial | rfl | (simp; done)) ?_
      | (refine awp_cond _ rfl (fun hc => ?_) (fun hc => ?_) <;> (try simp only [Bool.not_eq_true', Bool.not_eq_false'] at hc) <;> (try simp only [hc]))
      | (refine gdW_split (fun hc => ?_) (fun hc => ?_) <;> (try simp only [Bool.not_eq_true', Bool.not_eq_false'] at hc))
      | (refine gdQ_split (fun hc => ?_) (fun hc => ?_) <;> (try simp only [Bool.not_eq_true', Bool.not_eq_false'] at hc)))
    exact end_nilfz (L := []) hB (by first | (simp only [go_sem]; done) | (simp only [go_sem]; rfl) | rfl) (List.append_nil _).symm (by simp)
  | true =>
    cases hb : colsB to with
    | false =>
      have hv : turnV l to row = ([], 1) := by simp [turnV, e1, e2, ha, hb]
      rw [hv]
      repeat' (first
        | ((with_reducible first | refine isWL ?_ | refine isGW ?_ | refine isWQ ?_ | refine isGQ ?_); (first | simp only [go_sem, Nat.reduceAdd, Nat.reduceMul, Nat.reduceLeDiff, Nat.reduceLT, Nat.reduceEqDiff, Int.reduceToNat, Int.reduceLE, Int.reduceLT, List.forall_mem_cons, List.not_mem_nil, false_implies, implies_true, ha, hb, Bool.not_false, Bool.not_true, hc] | simp only [go_sem, Nat.reduceAdd, Nat.reduceMul, Nat.reduceLeDiff, Nat.reduceLT, Nat.reduceEqDiff, Int.reduceToNat, Int.reduceLE, Int.reduceLT, List.forall_mem_cons, List.not_mem_nil, false_implies, implies_true, ha, hb, Bool.not_false, Bool.not_true]))
        | refine awp_seq_k (fun K hK => ?_)
        | refine awp_block ?_
        | refine awp_region_w (by first | (simp; done) | assumption | (simp; omega)) (fun Q hQ => ?_)
        | refine awp_region_q mixed (by kernel_rfl) (by kernel_rfl) rfl (by first | (simp; done) | assumption | (simp; omega)) (fun Q hQ => ?_)
        | refine callW_quiet (refColumns_q l h1 (by omega) _) ?_
        | refine callQ_quiet (refColumns_q l h1 (by omega) _) ?_
        | refine callW_quiet (refColumns_q to h3 (by omega) _) ?_
        | refine callQ_quiet (refColumns_q to h3 (by omega) _) ?_
        | refine Both.mk ?_ ?_
        | (refine hQ _ _ ?_; clear hQ Q)
        | (refine hQ _ ?_; clear hQ Q)
        | refine awp_cond_true rfl ?_
        | refine awp_cond_false rfl ?_
        | refine awp_skip ?_
        | (refine awp_exit ?_; simp only [go_sem, Nat.reduceEqDiff])
        | (refine awp_ret ?_; try simp only [inBlock_ret, andThen_ret])
        | ((first | refine hK _ ?_ | (clear hK K; refine hK _ ?_) | (clear hK K; clear hK K; refine hK _ ?_) | (clear hK K; clear hK K; clear hK K; refine hK _ ?_) | (clear hK K; clear hK K; clear hK K; clear hK K; refine hK _ ?_) | (clear hK K; clear hK K; clear hK K; clear hK K; clear hK K; refine hK _ ?_) | (clear hK K; clear hK K; clear hK K; clear hK K; clear hK K; clear hK K; refine hK _ ?_)); clear hK; clear K)
        | refine And.intro (by first | assumption | omega | trivial | rfl | (simp; done)) ?_
        | (refine awp_cond _ rfl (fun hc => ?_) (fun hc => ?_) <;> (try simp only [Bool.not_eq_true', Bool.not_eq_false'] at hc) <;> (try simp only [hc]))
        | (refine gdW_split (fun hc => ?_) (fun hc => ?_) <;> (try simp only [Bool.not_eq_true', Bool.not_eq_false'] at hc))
        | (refine gdQ_split (fun hc => ?_) (fun hc => ?_) <;> (try simp only [Bool.not_eq_true', Bool.not_eq_false'] at hc)))
      exact end_nilfz (L := []) hB (by first | (simp only [go_sem]; done) | (simp only [go_sem]; rfl) | rfl) (List.append_nil _).symm (by simp)
    | true =>
      cases hf : allP formP l row with
      | false =>
        have hv : turnV l to row = ([], 100) := by simp [turnV, e1, e2, ha, hb, hf]
        rw [hv]
        repeat' (first
          | ((with_reducible first | refine isWL ?_ | refine isGW ?_ | refine isWQ ?_ | refine isGQ ?_); (first | simp only [go_sem, Nat.reduceAdd, Nat.reduceMul, Nat.reduceLeDiff, Nat.reduceLT, Nat.reduceEqDiff, Int.reduceToNat, Int.reduceLE, Int.reduceLT, List.forall_mem_cons, List.not_mem_nil, false_implies, implies_true, ha, hb, hf, Bool.not_false, Bool.not_true, hc] | simp only [go_sem, Nat.reduceAdd, Nat.reduceMul, Nat.reduceLeDiff, Nat.reduceLT, Nat.reduceEqDiff, Int.reduceToNat, Int.reduceLE, Int.reduceLT, List.forall_mem_cons, List.not_mem_nil, false_implies, implies_true, ha, hb, hf, Bool.not_false, Bool.not_true]))
          | refine awp_seq_k (fun K hK => ?_)
          | refine awp_block ?_
          | refine awp_region_w (by first | (simp; done) | assumption | (simp; omega)) (fun Q hQ => ?_)
          | refine awp_region_q mixed (by kernel_rfl) (by kernel_rfl) rfl (by first | (simp; done) | assumption | (simp; omega)) (fun Q hQ => ?_)
          | refine callW_quiet (refColumns_q l h1 (by omega) _) ?_
          | refine callQ_quiet (refColumns_q l h1 (by omega) _) ?_
          | refine callW_quiet (refColumns_q to h3 (by omega) _) ?_
          | refine callQ_quiet (refColumns_q to h3 (by omega) _) ?_
          | refine callW_quiet (refForm_q l row (by omega) _) ?_
          | refine callQ_quiet (refForm_q l row (by omega) _) ?_
          | refine Both.mk ?_ ?_
          | (refine hQ _ _ ?_; clear hQ Q)
          | (refine hQ _ ?_; clear hQ Q)
          | refine awp_cond_true rfl ?_
          | refine awp_cond_false rfl ?_
          | refine awp_skip ?_
          | (refine awp_exit ?_; simp only [go_sem, Nat.reduceEqDiff])
          | (refine awp_ret ?_; try simp only [inBlock_ret, andThen_ret])
          | ((first | refine hK _ ?_ | (clear hK K; refine hK _ ?_) | (clear hK K; clear hK K; refine hK _ ?_) | (clear hK K; clear hK K; clear hK K; refine hK _ ?_) | (clear hK K; clear hK K; clear hK K; clear hK K; refine hK _ ?_) | (clear hK K; clear hK K; clear hK K; clear hK K; clear hK K; refine hK _ ?_) | (clear hK K; clear hK K; clear hK K; clear hK K; clear hK K; clear hK K; refine hK _ ?_)); clear hK; clear K)
          | refine And.intro (by first | assumption | omega | trivial | rfl | (simp; done)) ?_
          | (refine awp_cond _ rfl (fun hc => ?_) (fun hc => ?_) <;> (try simp only [Bool.not_eq_true', Bool.not_eq_false'] at hc) <;> (try simp only [hc]))
          | (refine gdW_split (fun hc => ?_) (fun hc => ?_) <;> (try simp only [Bool.not_eq_true', Bool.not_eq_false'] at hc))
          | (refine gdQ_split (fun hc => ?_) (fun hc => ?_) <;> (try simp only [Bool.not_eq_true', Bool.not_eq_false'] at hc)))
        exact end_nilfz (L := []) hB (by first | (simp only [go_sem]; done) | (simp only [go_sem]; rfl) | rfl) (List.append_nil _).symm (by simp)
      | true =>
        have hv : turnV l to row = (to.map (turn1 l row), 0) := by simp [turnV, e1, e2, ha, hb, hf]
        rw [hv]
        have hlen := allP_eq_len hf
        repeat' (first
          | ((with_reducible first | refine isWL ?_ | refine isGW ?_ | refine isWQ ?_ | refine isGQ ?_); (first | simp only [go_sem, Nat.reduceAdd, Nat.reduceMul, Nat.reduceLeDiff, Nat.reduceLT, Nat.reduceEqDiff, Int.reduceToNat, Int.reduceLE, Int.reduceLT, List.forall_mem_cons, List.not_mem_nil, false_implies, implies_true, ha, hb, hf, Bool.not_false, Bool.not_true, hc] | simp only [go_sem, Nat.reduceAdd, Nat.reduceMul, Nat.reduceLeDiff, Nat.reduceLT, Nat.reduceEqDiff, Int.reduceToNat, Int.reduceLE, Int.reduceLT, List.forall_mem_cons, List.not_mem_nil, false_implies, implies_true, ha, hb, hf, Bool.not_false, Bool.not_true]))
          | refine awp_seq_k (fun K hK => ?_)
          | refine awp_block ?_
          | refine awp_region_w (by first | (simp; done) | assumption | (simp; omega)) (fun Q hQ => ?_)
          | refine awp_region_q mixed (by kernel_rfl) (by kernel_rfl) rfl (by first | (simp; done) | assumption | (simp; omega)) (fun Q hQ => ?_)
          | refine callW_quiet (refColumns_q l h1 (by omega) _) ?_
          | refine callQ_quiet (refColumns_q l h1 (by omega) _) ?_
          | refine callW_quiet (refColumns_q to h3 (by omega) _) ?_
          | refine callQ_quiet (refColumns_q to h3 (by omega) _) ?_
          | refine callW_quiet (refForm_q l row (by omega) _) ?_
          | refine callQ_quiet (refForm_q l row (by omega) _) ?_
          | refine Both.mk ?_ ?_
          | (refine hQ _ _ ?_; clear hQ Q)
          | (refine hQ _ ?_; clear hQ Q)
          | refine awp_cond_true rfl ?_
          | refine awp_cond_false rfl ?_
          | refine awp_skip ?_
          | (refine awp_exit ?_; simp only [go_sem, Nat.reduceEqDiff])
          | (refine awp_ret ?_; try simp only [inBlock_ret, andThen_ret])
          | ((first | refine hK _ ?_ | (clear hK K; refine hK _ ?_) | (clear hK K; clear hK K; refine hK _ ?_) | (clear hK K; clear hK K; clear hK K; refine hK _ ?_) | (clear hK K; clear hK K; clear hK K; clear hK K; refine hK _ ?_) | (clear hK K; clear hK K; clear hK K; clear hK K; clear hK K; refine hK _ ?_) | (clear hK K; clear hK K; clear hK K; clear hK K; clear hK K; clear hK K; refine hK _ ?_)); clear hK; clear K)
          | refine And.intro (by first | assumption | omega | trivial | rfl | (simp; done)) ?_
          | (refine awp_cond _ rfl (fun hc => ?_) (fun hc => ?_) <;> (try simp only [Bool.not_eq_true', Bool.not_eq_false'] at hc) <;> (try simp only [hc]))
          | (refine gdW_split (fun hc => ?_) (fun hc => ?_) <;> (try simp only [Bool.not_eq_true', Bool.not_eq_false'] at hc))
          | (refine gdQ_split (fun hc => ?_) (fun hc => ?_) <;> (try simp only [Bool.not_eq_true', Bool.not_eq_false'] at hc)))
        refine awp_loop_at (fun T n S => ∃ (i : Nat) (acc : List ValR), (i ≤ (to).length ∧ acc ++ (to.drop i).map (turn1 l row) = to.map (turn1 l row) ∧ acc.length = i) ∧ n = (to).length - i ∧ S = ⟨setT T [(9, .int .i64 (i : Int)), (8, .sl H.length acc.length 0 acc.length), (10, .junk), (11, .junk), (24, .junk), (25, .junk), (26, .junk), (27, .junk), (28, .junk), (29, .junk), (30, .junk), (31, .junk), (32, .junk), (33, .junk), (34, .junk), (35, .junk), (36, .junk), (37, .junk), (38, .junk), (39, .junk), (40, .junk), (41, .junk), (42, .junk), (43, .junk), (44, .junk), (45, .junk), (46, .junk), (47, .junk), (48, .junk), (49, .junk), (50, .junk), (51, .junk), (52, .junk), (53, .junk), (54, .junk), (55, .junk), (56, .junk), (57, .junk), (58, .junk), (59, .junk), (60, .junk)], H ++ [valObj acc]⟩) ?_ ?_
        · refine ⟨_, _, weak_nil (24) (3) (H.length) (by simp) (by first | (simp; done) | (simp only [go_sem]; done) | (simp only [go_sem]; simp; done)) (by simp) ?_, 0, [], ⟨Nat.zero_le _, by simp⟩, rfl, rfl⟩
          simp only [go_sem]; simp [NilT]
        · rintro n S ⟨i, acc, ⟨hi, hinv⟩, rfl, rfl⟩
          by_cases hlt : i < (to).length
          · have hw := wrap_succ hlt (by omega)
            have hd : decide (i < (to).length) = true := by simpa using hlt
            obtain ⟨a, ha⟩ : ∃ a, (to)[i]? = some a := ⟨_, List.getElem?_eq_getElem hlt⟩
            have hl := look_map (g := ColR.av) ha
            have hmem := List.mem_of_getElem? ha
            try rw [drop_cons ha] at hinv
            obtain ⟨hinv, hal⟩ := hinv
            simp only [List.map_cons] at hinv
            have hix := idxOf_lt (p := fun d : ColR => d.name == a.name) (l := l)
            by_cases h0 : 0 ≤ idxOf (fun d => d.name == a.name) l
            · have hd0 : decide (0 ≤ idxOf (fun d => d.name == a.name) l) = true := by simpa using h0
              obtain ⟨hlt2, hlk2⟩ := valOf_look hlen h0
              obtain ⟨c, hc0⟩ : ∃ c, l[(idxOf (fun d => d.name == a.name) l).toNat]? = some c := ⟨_, List.getElem?_eq_getElem (by omega)⟩
              have hlk0 := look_map (g := ColR.av) hc0
              have hk : kindAt l (idxOf (fun d => d.name == a.name) l) = c.kind := by simp only [kindAt, hc0]
              repeat' (first
                | ((with_reducible first | refine isWL ?_ | refine isGW ?_ | refine isWQ ?_ | refine isGQ ?_); (first | simp only [go_sem, Nat.reduceAdd, Nat.reduceMul, Nat.reduceLeDiff, Nat.reduceLT, Nat.reduceEqDiff, Int.reduceToNat, Int.reduceLE, Int.reduceLT, List.forall_mem_cons, List.not_mem_nil, false_implies, implies_true, hd, hw, hl, hlt, hlt2, hlk2, hlk0, hix, h0, hd0, List.length_map, hc] | simp only [go_sem, Nat.reduceAdd, Nat.reduceMul, Nat.reduceLeDiff, Nat.reduceLT, Nat.reduceEqDiff, Int.reduceToNat, Int.reduceLE, Int.reduceLT, List.forall_mem_cons, List.not_mem_nil, false_implies, implies_true, hd, hw, hl, hlt, hlt2, hlk2, hlk0, hix, h0, hd0, List.length_map]))
                | refine awp_seq_k (fun K hK => ?_)
                | refine awp_block ?_
                | refine awp_region_w (by first | (simp; done) | assumption | (simp; omega)) (fun Q hQ => ?_)
                | refine awp_region_q mixed (by kernel_rfl) (by kernel_rfl) rfl (by first | (simp; done) | assumption | (simp; omega)) (fun Q hQ => ?_)
                | refine callW_quiet (refColumn_q l a.name (by omega) _) ?_
                | refine callQ_quiet (refColumn_q l a.name (by omega) _) ?_
                | refine Both.mk ?_ ?_
                | (refine hQ _ _ ?_; clear hQ Q)
                | (refine hQ _ ?_; clear hQ Q)
                | refine awp_cond_true rfl ?_
                | refine awp_cond_false rfl ?_
                | refine awp_skip ?_
                | (refine awp_exit ?_; simp only [go_sem, Nat.reduceEqDiff])
                | (refine awp_ret ?_; try simp only [inBlock_ret, andThen_ret])
                | ((first | refine hK _ ?_ | (clear hK K; refine hK _ ?_) | (clear hK K; clear hK K; refine hK _ ?_) | (clear hK K; clear hK K; clear hK K; refine hK _ ?_) | (clear hK K; clear hK K; clear hK K; clear hK K; refine hK _ ?_) | (clear hK K; clear hK K; clear hK K; clear hK K; clear hK K; refine hK _ ?_) | (clear hK K; clear hK K; clear hK K; clear hK K; clear hK K; clear hK K; refine hK _ ?_)); clear hK; clear K)
                | refine And.intro (by first | assumption | omega | trivial | rfl | (simp; done)) ?_
                | (refine awp_cond _ rfl (fun hc => ?_) (fun hc => ?_) <;> (try simp only [Bool.not_eq_true', Bool.not_eq_false'] at hc) <;> (try simp only [hc]))
                | (refine gdW_split (fun hc => ?_) (fun hc => ?_) <;> (try simp only [Bool.not_eq_true', Bool.not_eq_false'] at hc))
                | (refine gdQ_split (fun hc => ?_) (fun hc => ?_) <;> (try simp only [Bool.not_eq_true', Bool.not_eq_false'] at hc)))
              all_goals
                simp only [turn1, hk, hd0, *, Bool.true_and, if_true, Bool.false_eq_true, if_false] at hinv
                first
                | (rw [andThen_normal]
                   refine ⟨(to).length - (i + 1), by omega, _, ?_, i + 1, acc ++ [valOf l row a.name], ⟨by omega, ⟨by simpa using hinv, by simp; omega⟩⟩, rfl, rfl⟩
                   first
                     | (refine weak_junk ?_; (try simp only [go_sem]); simp [LeT]; done)
                     | (simp only [go_sem, List.map_append, List.map_cons, List.map_nil, List.length_append, List.length_cons, List.length_nil, List.length_map, Nat.zero_add, List.append_assoc, List.cons_append, List.nil_append]; refine weak_junk ?_; simp [LeT]; done)
                     | ((try simp only [go_sem, List.map_append, List.map_cons, List.map_nil, List.length_append, List.length_cons, List.length_nil, List.length_map, Nat.zero_add, List.append_assoc, List.cons_append, List.nil_append]); refine weak_cut _ (by first | rfl | (simp only [List.append_assoc, List.cons_append, List.nil_append]; rfl)) (by simp) (by simp [LeT]) (by simp) (by first | exact hB | (refine hB_app hB ?_; simp; done) | (refine hB_app hB ?_; simp [or_imp, forall_and]; done) | (refine hB_app hB ?_; simp; refine forall_set ?_ ?_ <;> simp; done)); done))
                | (rw [andThen_normal]
                   refine ⟨(to).length - (i + 1), by omega, _, ?_, i + 1, acc ++ [⟨1, 0, []⟩], ⟨by omega, ⟨by simpa using hinv, by simp; omega⟩⟩, rfl, rfl⟩
                   first
                     | (refine weak_junk ?_; (try simp only [go_sem]); simp [LeT]; done)
                     | (simp only [go_sem, List.map_append, List.map_cons, List.map_nil, List.length_append, List.length_cons, List.length_nil, List.length_map, Nat.zero_add, List.append_assoc, List.cons_append, List.nil_append]; refine weak_junk ?_; simp [LeT]; done)
                     | ((try simp only [go_sem, List.map_append, List.map_cons, List.map_nil, List.length_append, List.length_cons, List.length_nil, List.length_map, Nat.zero_add, List.append_assoc, List.cons_append, List.nil_append]); refine weak_cut _ (by first | rfl | (simp only [List.append_assoc, List.cons_append, List.nil_append]; rfl)) (by simp) (by simp [LeT]) (by simp) (by first | exact hB | (refine hB_app hB ?_; simp; done) | (refine hB_app hB ?_; simp [or_imp, forall_and]; done) | (refine hB_app hB ?_; simp; refine forall_set ?_ ?_ <;> simp; done)); done))
            · have hd0 : decide (0 ≤ idxOf (fun d => d.name == a.name) l) = false := by simpa using h0
              simp only [turn1, hd0, Bool.false_and, Bool.false_eq_true, if_false] at hinv
              repeat' (first
                | ((with_reducible first | refine isWL ?_ | refine isGW ?_ | refine isWQ ?_ | refine isGQ ?_); (first | simp only [go_sem, Nat.reduceAdd, Nat.reduceMul, Nat.reduceLeDiff, Nat.reduceLT, Nat.reduceEqDiff, Int.reduceToNat, Int.reduceLE, Int.reduceLT, List.forall_mem_cons, List.not_mem_nil, false_implies, implies_true, hd, hw, hl, hlt, hix, hd0, List.length_map, hc] | simp only [go_sem, Nat.reduceAdd, Nat.reduceMul, Nat.reduceLeDiff, Nat.reduceLT, Nat.reduceEqDiff, Int.reduceToNat, Int.reduceLE, Int.reduceLT, List.forall_mem_cons, List.not_mem_nil, false_implies, implies_true, hd, hw, hl, hlt, hix, hd0, List.length_map]))
                | refine awp_seq_k (fun K hK => ?_)
                | refine awp_block ?_
                | refine awp_region_w (by first | (simp; done) | assumption | (simp; omega)) (fun Q hQ => ?_)
                | refine awp_region_q mixed (by kernel_rfl) (by kernel_rfl) rfl (by first | (simp; done) | assumption | (simp; omega)) (fun Q hQ => ?_)
                | refine callW_quiet (refColumn_q l a.name (by omega) _) ?_
                | refine callQ_quiet (refColumn_q l a.name (by omega) _) ?_
                | refine Both.mk ?_ ?_
                | (refine hQ _ _ ?_; clear hQ Q)
                | (refine hQ _ ?_; clear hQ Q)
                | refine awp_cond_true rfl ?_
                | refine awp_cond_false rfl ?_
                | refine awp_skip ?_
                | (refine awp_exit ?_; simp only [go_sem, Nat.reduceEqDiff])
                | (refine awp_ret ?_; try simp only [inBlock_ret, andThen_ret])
                | ((first | refine hK _ ?_ | (clear hK K; refine hK _ ?_) | (clear hK K; clear hK K; refine hK _ ?_) | (clear hK K; clear hK K; clear hK K; refine hK _ ?_) | (clear hK K; clear hK K; clear hK K; clear hK K; refine hK _ ?_) | (clear hK K; clear hK K; clear hK K; clear hK K; clear hK K; refine hK _ ?_) | (clear hK K; clear hK K; clear hK K; clear hK K; clear hK K; clear hK K; refine hK _ ?_)); clear hK; clear K)
                | refine And.intro (by first | assumption | omega | trivial | rfl | (simp; done)) ?_
                | (refine awp_cond _ rfl (fun hc => ?_) (fun hc => ?_) <;> (try simp only [Bool.not_eq_true', Bool.not_eq_false'] at hc) <;> (try simp only [hc]))
                | (refine gdW_split (fun hc => ?_) (fun hc => ?_) <;> (try simp only [Bool.not_eq_true', Bool.not_eq_false'] at hc))
                | (refine gdQ_split (fun hc => ?_) (fun hc => ?_) <;> (try simp only [Bool.not_eq_true', Bool.not_eq_false'] at hc)))
              rw [andThen_normal]
              refine ⟨(to).length - (i + 1), by omega, _, ?_, i + 1, acc ++ [⟨1, 0, []⟩], ⟨by omega, ⟨by simpa using hinv, by simp; omega⟩⟩, rfl, rfl⟩
              first
                | (refine weak_junk ?_; (try simp only [go_sem]); simp [LeT]; done)
                | (simp only [go_sem, List.map_append, List.map_cons, List.map_nil, List.length_append, List.length_cons, List.length_nil, List.length_map, Nat.zero_add, List.append_assoc, List.cons_append, List.nil_append]; refine weak_junk ?_; simp [LeT]; done)
                | ((try simp only [go_sem, List.map_append, List.map_cons, List.map_nil, List.length_append, List.length_cons, List.length_nil, List.length_map, Nat.zero_add, List.append_assoc, List.cons_append, List.nil_append]); refine weak_cut _ (by first | rfl | (simp only [List.append_assoc, List.cons_append, List.nil_append]; rfl)) (by simp) (by simp [LeT]) (by simp) (by first | exact hB | (refine hB_app hB ?_; simp; done) | (refine hB_app hB ?_; simp [or_imp, forall_and]; done) | (refine hB_app hB ?_; simp; refine forall_set ?_ ?_ <;> simp; done)); done)
          · have hd : decide (i < (to).length) = false := by simpa using hlt
            have hnil : (to).drop i = [] := List.drop_eq_nil_of_le (by omega)
            try rw [hnil] at hinv
            obtain ⟨hinv, hal⟩ := hinv
            simp only [List.map_nil, List.append_nil] at hinv
            repeat (first
              | ((with_reducible first | refine isWL ?_ | refine isGW ?_ | refine isWQ ?_ | refine isGQ ?_); simp only [go_sem, Nat.reduceAdd, Nat.reduceMul, Nat.reduceLeDiff, Nat.reduceLT, Nat.reduceEqDiff, Int.reduceToNat, Int.reduceLE, Int.reduceLT, List.forall_mem_cons, List.not_mem_nil, false_implies, implies_true, hd, List.length_map])
              | refine awp_seq_k (fun K hK => ?_)
              | refine awp_block ?_
              | refine awp_region_w (by first | (simp; done) | assumption | (simp; omega)) (fun Q hQ => ?_)
              | refine awp_region_q mixed (by kernel_rfl) (by kernel_rfl) rfl (by first | (simp; done) | assumption | (simp; omega)) (fun Q hQ => ?_)
              | refine Both.mk ?_ ?_
              | (refine hQ _ _ ?_; clear hQ Q)
              | (refine hQ _ ?_; clear hQ Q)
              | refine awp_cond_true rfl ?_
              | refine awp_cond_false rfl ?_
              | refine awp_skip ?_
              | (refine awp_exit ?_; simp only [go_sem, Nat.reduceEqDiff])
              | (refine awp_ret ?_; try simp only [inBlock_ret, andThen_ret])
              | ((first | refine hK _ ?_ | (clear hK K; refine hK _ ?_) | (clear hK K; clear hK K; refine hK _ ?_) | (clear hK K; clear hK K; clear hK K; refine hK _ ?_) | (clear hK K; clear hK K; clear hK K; clear hK K; refine hK _ ?_) | (clear hK K; clear hK K; clear hK K; clear hK K; clear hK K; refine hK _ ?_) | (clear hK K; clear hK K; clear hK K; clear hK K; clear hK K; clear hK K; refine hK _ ?_)); clear hK; clear K)
              | refine And.intro (by first | assumption | omega | trivial | rfl | (simp; done)) ?_)
            rw [← hinv]
            refine end_dfz _ hB (by first | (simp only [go_sem]; done) | (simp only [go_sem]; rfl) | rfl) rfl ?_
            exact Dfz.tupleL ⟨Dfz.slE (by simp only [go_sem]; rfl) (by simp) (by simp [ValR.av, AV.cells]) (by simp) (DfzE.same (by simp)), .same _ (by simp), trivial⟩

end Go.Proofs.Ytamoclnnakdiaaa.Abs
