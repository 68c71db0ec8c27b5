/-
  rows.Fit, rows.Key.
  Conditions: none.
-/
import Derived.Test.YtamoclnnakdiaaaC17
namespace Go.Proofs.Ytamoclnnakdiaaa.Abs
open Go Go.RowKit
set_option linter.unusedVariables false
set_option maxRecDepth 100000
set_option maxHeartbeats 4000000
set_option linter.unusedSimpArgs false

/-- A row's value in the column of a name. -/
def valOf (l : List ColR) (row : List ValR) (s : List UInt8) : ValR := (row[(idxOf (fun c => c.name == s) l).toNat]?).getD ⟨0, 0, []⟩

/-- Does a value keep a check? -/
def keepB (r : RuleR) (v : ValR) : Bool := !((v.kind == 2) && (decide (v.num < r.low) || decide (r.high < v.num)))

def fitL (l : List ColR) (row : List ValR) : List RuleR → Int
  | [] => 0
  | r :: rs => if (r.kind == 3) = true then (if keepB r (valOf l row (r.cols.headD [])) = true then fitL l row rs else 102) else fitL l row rs

def fitE (t : TableR) (row : List ValR) : Int :=
  if aloneB t = true then
    (if allP formP t.cols row = true then
      (if allP nullP t.cols row = true then fitL t.cols row t.rules else 101)
    else 100)
  else 1

theorem aloneRule_other {r : RuleR} (h : r.kind ≠ 4) : aloneRule r = r := by
  unfold aloneRule
  rw [if_neg]
  simp [h]

/-- What a rule of a right table is like. -/
theorem alone_rule {t : TableR} {r : RuleR} (h : aloneB t = true) (hr : r ∈ t.rules) : fitsB t.cols (aloneRule r) = true := by
  unfold aloneB checkB at h
  simp only [Bool.and_eq_true] at h
  have h2 := (List.all_eq_true.1 h.2) (aloneT t) (by simp [aloneO])
  unfold rightB at h2
  simp only [Bool.and_eq_true] at h2
  have h3 := (List.all_eq_true.1 h2.1.2) (aloneRule r) (by simp only [aloneT]; exact List.mem_map.2 ⟨r, hr, rfl⟩)
  unfold ruleOk at h3
  simp only [Bool.and_eq_true] at h3
  exact h3.1

theorem fits_cols {l : List ColR} {r : RuleR} (h : fitsB l r = true) : r.cols ≠ [] ∧ ∀ s, s ∈ r.cols → 0 ≤ idxOf (fun c => c.name == s) l := by
  unfold fitsB at h
  simp only [Bool.and_eq_true, Bool.not_eq_true', decide_eq_false_iff_not] at h
  obtain ⟨⟨⟨⟨h1, h2⟩, h3⟩, h4⟩, h5⟩ := h
  refine ⟨fun h0 => by rw [h0] at h2; simp at h2, fun s hs => ?_⟩
  obtain ⟨j, hj⟩ := List.getElem?_of_mem hs
  have hk := (List.all_eq_true.1 h4) j (List.mem_range.2 (lt_of_get hj))
  rw [okFit_at hj] at hk
  simp only [Bool.and_eq_true, Bool.not_eq_true', decide_eq_false_iff_not] at hk
  omega

theorem aloneRule_cols (r : RuleR) : (aloneRule r).cols = r.cols := by
  unfold aloneRule
  split <;> rfl

theorem allP_eq_len {α β : Type} {p : α → β → Bool} {xs : List α} {ys : List β} (h : allP p xs ys = true) : xs.length = ys.length := by
  rcases Nat.decEq xs.length ys.length with h' | h'
  · rw [allP_len h'] at h; cases h
  · exact h'

theorem valOf_look {l : List ColR} {row : List ValR} {s : List UInt8} (hlen : l.length = row.length) (h : 0 ≤ idxOf (fun c => c.name == s) l) :
    idxOf (fun c => c.name == s) l < row.length ∧ look (row.map ValR.av) (idxOf (fun c => c.name == s) l).toNat = (valOf l row s).av := by
  have h1 := idxOf_lt (p := fun c : ColR => c.name == s) (l := l)
  have h2 : (idxOf (fun c => c.name == s) l).toNat < row.length := by omega
  refine ⟨by omega, ?_⟩
  have h3 : row[(idxOf (fun c => c.name == s) l).toNat]? = some row[(idxOf (fun c => c.name == s) l).toNat] := List.getElem?_eq_getElem h2
  rw [look_map h3]
  simp only [valOf, h3, Option.getD_some]

theorem rowsFit_q (t : TableR) (row : List ValR) (ht : t.fit) (H : List AObj) : QuietF Go.Proofs.Try.prog 23 [TableR.av t, .fz (row.map ValR.av)] H (.int .i64 (fitE t row)) := by
  refine ACallF.of hb_23 (acalls_body Try.func23 rfl ?_)
  intro hB hA
  rw [args0_23]
  have ht' := ht
  obtain ⟨t1, t2, t3, t4, t5, t6, t7⟩ := ht'
  have hck := fun H => rowsCheck_q t ht H
  cases ha0 : aloneB t with
  | false =>
    have hr : aloneE t = 1 := by simp [aloneE, ha0]
    have hv : fitE t row = 1 := by simp [fitE, ha0]
    rw [hv]
    repeat' (first
      | ((with_reducible first | refine isWL ?_ | refine isGW ?_ | refine isWQ ?_ | refine isGQ ?_ | refine isWE ?_ | refine isNE ?_); (first | simp only [and_assoc, true_and, go_sem, Nat.reduceAdd, Nat.reduceMul, Nat.reduceLeDiff, Nat.reduceLT, Nat.reduceEqDiff, Int.reduceToNat, Int.reduceLE, Int.reduceLT, List.forall_mem_cons, List.not_mem_nil, false_implies, implies_true, hr, Int.reduceBEq, Bool.not_false, hc] | simp only [and_assoc, true_and, go_sem, Nat.reduceAdd, Nat.reduceMul, Nat.reduceLeDiff, Nat.reduceLT, Nat.reduceEqDiff, Int.reduceToNat, Int.reduceLE, Int.reduceLT, List.forall_mem_cons, List.not_mem_nil, false_implies, implies_true, hr, Int.reduceBEq, Bool.not_false]))
      | refine awp_seq_k (fun K hK => ?_)
      | refine awp_block ?_
      | refine awp_region_w (by first | (simp; done) | assumption | (simp; omega)) (fun Q hQ => ?_)
      | refine awp_region_e [10, 11] [.quiet [0, 1], .quiet [0, 1], .quiet [0, 1], .quiet [0, 1], .quiet [0, 1], .quiet [0, 1], .quiet [0, 1], .quiet [0, 1], .quiet [0, 1], .quiet [0, 1], .eff 0, .eff 1] [34, 35, 36, 37, 38, 39, 40, 41, 42, 43, 7] mixed (by kernel_rfl) (by kernel_rfl) (by kernel_rfl) rfl rfl ?_
      | refine awp_region_q mixed (by kernel_rfl) (by kernel_rfl) rfl (by first | (simp; done) | assumption | (simp; omega)) (fun Q hQ => ?_)
      | refine callW_quiet (hck _) ?_
      | refine callQ_quiet (hck _) ?_
      | refine callE_quiet (hck _) ?_
      | refine And.intro (callR_quiet (hck _) rfl) ?_
      | refine Both.mk ?_ ?_
      | (refine hQ _ _ ?_; clear hQ Q)
      | (refine hQ _ ?_; clear hQ Q)
      | refine awp_cond_true rfl ?_
      | refine awp_cond_false rfl ?_
      | refine awp_skip ?_
      | (refine awp_exit ?_; simp only [go_sem, Nat.reduceEqDiff])
      | (refine awp_ret ?_; try simp only [inBlock_ret, andThen_ret])
      | ((first | refine hK _ ?_ | (clear hK K; refine hK _ ?_) | (clear hK K; clear hK K; refine hK _ ?_) | (clear hK K; clear hK K; clear hK K; refine hK _ ?_) | (clear hK K; clear hK K; clear hK K; clear hK K; refine hK _ ?_) | (clear hK K; clear hK K; clear hK K; clear hK K; clear hK K; refine hK _ ?_) | (clear hK K; clear hK K; clear hK K; clear hK K; clear hK K; clear hK K; refine hK _ ?_)); clear hK; clear K)
      | refine And.intro (by first | assumption | omega | trivial | rfl | (simp; done)) ?_
      | (refine awp_cond _ rfl (fun hc => ?_) (fun hc => ?_) <;> (try simp only [Bool.not_eq_true', Bool.not_eq_false'] at hc) <;> (try simp only [hc]))
      | (refine gdW_split (fun hc => ?_) (fun hc => ?_) <;> (try simp only [Bool.not_eq_true', Bool.not_eq_false'] at hc))
      | (refine gdQ_split (fun hc => ?_) (fun hc => ?_) <;> (try simp only [Bool.not_eq_true', Bool.not_eq_false'] at hc)))
    first | exact end_quiet0 rfl rfl | exact end_quiet hB rfl rfl (by simp)
  | true =>
    have hr : aloneE t = 0 := by simp [aloneE, ha0]
    cases hf0 : allP formP t.cols row with
    | false =>
      have hv : fitE t row = 100 := by simp [fitE, ha0, hf0]
      rw [hv]
      repeat' (first
        | ((with_reducible first | refine isWL ?_ | refine isGW ?_ | refine isWQ ?_ | refine isGQ ?_ | refine isWE ?_ | refine isNE ?_); (first | simp only [and_assoc, true_and, go_sem, Nat.reduceAdd, Nat.reduceMul, Nat.reduceLeDiff, Nat.reduceLT, Nat.reduceEqDiff, Int.reduceToNat, Int.reduceLE, Int.reduceLT, List.forall_mem_cons, List.not_mem_nil, false_implies, implies_true, hr, hf0, Int.reduceBEq, Bool.not_true, Bool.not_false, hc] | simp only [and_assoc, true_and, go_sem, Nat.reduceAdd, Nat.reduceMul, Nat.reduceLeDiff, Nat.reduceLT, Nat.reduceEqDiff, Int.reduceToNat, Int.reduceLE, Int.reduceLT, List.forall_mem_cons, List.not_mem_nil, false_implies, implies_true, hr, hf0, Int.reduceBEq, Bool.not_true, Bool.not_false]))
        | refine awp_seq_k (fun K hK => ?_)
        | refine awp_block ?_
        | refine awp_region_w (by first | (simp; done) | assumption | (simp; omega)) (fun Q hQ => ?_)
        | refine awp_region_e [10, 11] [.quiet [0, 1], .quiet [0, 1], .quiet [0, 1], .quiet [0, 1], .quiet [0, 1], .quiet [0, 1], .quiet [0, 1], .quiet [0, 1], .quiet [0, 1], .quiet [0, 1], .eff 0, .eff 1] [34, 35, 36, 37, 38, 39, 40, 41, 42, 43, 7] mixed (by kernel_rfl) (by kernel_rfl) (by kernel_rfl) rfl rfl ?_
        | refine awp_region_q mixed (by kernel_rfl) (by kernel_rfl) rfl (by first | (simp; done) | assumption | (simp; omega)) (fun Q hQ => ?_)
        | refine callW_quiet (hck _) ?_
        | refine callQ_quiet (hck _) ?_
        | refine callE_quiet (hck _) ?_
        | refine And.intro (callR_quiet (hck _) rfl) ?_
        | refine callW_quiet (formed_q t.cols row (by omega) _) ?_
        | refine callQ_quiet (formed_q t.cols row (by omega) _) ?_
        | refine callE_quiet (formed_q t.cols row (by omega) _) ?_
        | refine And.intro (callR_quiet (formed_q t.cols row (by omega) _) rfl) ?_
        | refine Both.mk ?_ ?_
        | (refine hQ _ _ ?_; clear hQ Q)
        | (refine hQ _ ?_; clear hQ Q)
        | refine awp_cond_true rfl ?_
        | refine awp_cond_false rfl ?_
        | refine awp_skip ?_
        | (refine awp_exit ?_; simp only [go_sem, Nat.reduceEqDiff])
        | (refine awp_ret ?_; try simp only [inBlock_ret, andThen_ret])
        | ((first | refine hK _ ?_ | (clear hK K; refine hK _ ?_) | (clear hK K; clear hK K; refine hK _ ?_) | (clear hK K; clear hK K; clear hK K; refine hK _ ?_) | (clear hK K; clear hK K; clear hK K; clear hK K; refine hK _ ?_) | (clear hK K; clear hK K; clear hK K; clear hK K; clear hK K; refine hK _ ?_) | (clear hK K; clear hK K; clear hK K; clear hK K; clear hK K; clear hK K; refine hK _ ?_)); clear hK; clear K)
        | refine And.intro (by first | assumption | omega | trivial | rfl | (simp; done)) ?_
        | (refine awp_cond _ rfl (fun hc => ?_) (fun hc => ?_) <;> (try simp only [Bool.not_eq_true', Bool.not_eq_false'] at hc) <;> (try simp only [hc]))
        | (refine gdW_split (fun hc => ?_) (fun hc => ?_) <;> (try simp only [Bool.not_eq_true', Bool.not_eq_false'] at hc))
        | (refine gdQ_split (fun hc => ?_) (fun hc => ?_) <;> (try simp only [Bool.not_eq_true', Bool.not_eq_false'] at hc)))
      first | exact end_quiet0 rfl rfl | exact end_quiet hB rfl rfl (by simp)
    | true =>
      cases hn0 : allP nullP t.cols row with
      | false =>
        have hv : fitE t row = 101 := by simp [fitE, ha0, hf0, hn0]
        rw [hv]
        repeat' (first
          | ((with_reducible first | refine isWL ?_ | refine isGW ?_ | refine isWQ ?_ | refine isGQ ?_ | refine isWE ?_ | refine isNE ?_); (first | simp only [and_assoc, true_and, go_sem, Nat.reduceAdd, Nat.reduceMul, Nat.reduceLeDiff, Nat.reduceLT, Nat.reduceEqDiff, Int.reduceToNat, Int.reduceLE, Int.reduceLT, List.forall_mem_cons, List.not_mem_nil, false_implies, implies_true, hr, hf0, hn0, Int.reduceBEq, Bool.not_true, Bool.not_false, hc] | simp only [and_assoc, true_and, go_sem, Nat.reduceAdd, Nat.reduceMul, Nat.reduceLeDiff, Nat.reduceLT, Nat.reduceEqDiff, Int.reduceToNat, Int.reduceLE, Int.reduceLT, List.forall_mem_cons, List.not_mem_nil, false_implies, implies_true, hr, hf0, hn0, Int.reduceBEq, Bool.not_true, Bool.not_false]))
          | refine awp_seq_k (fun K hK => ?_)
          | refine awp_block ?_
          | refine awp_region_w (by first | (simp; done) | assumption | (simp; omega)) (fun Q hQ => ?_)
          | refine awp_region_e [10, 11] [.quiet [0, 1], .quiet [0, 1], .quiet [0, 1], .quiet [0, 1], .quiet [0, 1], .quiet [0, 1], .quiet [0, 1], .quiet [0, 1], .quiet [0, 1], .quiet [0, 1], .eff 0, .eff 1] [34, 35, 36, 37, 38, 39, 40, 41, 42, 43, 7] mixed (by kernel_rfl) (by kernel_rfl) (by kernel_rfl) rfl rfl ?_
          | refine awp_region_q mixed (by kernel_rfl) (by kernel_rfl) rfl (by first | (simp; done) | assumption | (simp; omega)) (fun Q hQ => ?_)
          | refine callW_quiet (hck _) ?_
          | refine callQ_quiet (hck _) ?_
          | refine callE_quiet (hck _) ?_
          | refine And.intro (callR_quiet (hck _) rfl) ?_
          | refine callW_quiet (formed_q t.cols row (by omega) _) ?_
          | refine callQ_quiet (formed_q t.cols row (by omega) _) ?_
          | refine callE_quiet (formed_q t.cols row (by omega) _) ?_
          | refine And.intro (callR_quiet (formed_q t.cols row (by omega) _) rfl) ?_
          | refine callW_quiet (beside_q t.cols row nullP _ (by omega) _ (fun a b H' _ _ => fitF_q a b H')) ?_
          | refine callQ_quiet (beside_q t.cols row nullP _ (by omega) _ (fun a b H' _ _ => fitF_q a b H')) ?_
          | refine callE_quiet (beside_q t.cols row nullP _ (by omega) _ (fun a b H' _ _ => fitF_q a b H')) ?_
          | refine And.intro (callR_quiet (beside_q t.cols row nullP _ (by omega) _ (fun a b H' _ _ => fitF_q a b H')) rfl) ?_
          | refine Both.mk ?_ ?_
          | (refine hQ _ _ ?_; clear hQ Q)
          | (refine hQ _ ?_; clear hQ Q)
          | refine awp_cond_true rfl ?_
          | refine awp_cond_false rfl ?_
          | refine awp_skip ?_
          | (refine awp_exit ?_; simp only [go_sem, Nat.reduceEqDiff])
          | (refine awp_ret ?_; try simp only [inBlock_ret, andThen_ret])
          | ((first | refine hK _ ?_ | (clear hK K; refine hK _ ?_) | (clear hK K; clear hK K; refine hK _ ?_) | (clear hK K; clear hK K; clear hK K; refine hK _ ?_) | (clear hK K; clear hK K; clear hK K; clear hK K; refine hK _ ?_) | (clear hK K; clear hK K; clear hK K; clear hK K; clear hK K; refine hK _ ?_) | (clear hK K; clear hK K; clear hK K; clear hK K; clear hK K; clear hK K; refine hK _ ?_)); clear hK; clear K)
          | refine And.intro (by first | assumption | omega | trivial | rfl | (simp; done)) ?_
          | (refine awp_cond _ rfl (fun hc => ?_) (fun hc => ?_) <;> (try simp only [Bool.not_eq_true', Bool.not_eq_false'] at hc) <;> (try simp only [hc]))
          | (refine gdW_split (fun hc => ?_) (fun hc => ?_) <;> (try simp only [Bool.not_eq_true', Bool.not_eq_false'] at hc))
          | (refine gdQ_split (fun hc => ?_) (fun hc => ?_) <;> (try simp only [Bool.not_eq_true', Bool.not_eq_false'] at hc)))
        first | exact end_quiet0 rfl rfl | exact end_quiet hB rfl rfl (by simp)
      | true =>
        have hv : fitE t row = fitL t.cols row t.rules := by simp [fitE, ha0, hf0, hn0]
        rw [hv]
        have hlen := allP_eq_len hf0
        repeat' (first
          | ((with_reducible first | refine isWL ?_ | refine isGW ?_ | refine isWQ ?_ | refine isGQ ?_ | refine isWE ?_ | refine isNE ?_); (first | simp only [and_assoc, true_and, go_sem, Nat.reduceAdd, Nat.reduceMul, Nat.reduceLeDiff, Nat.reduceLT, Nat.reduceEqDiff, Int.reduceToNat, Int.reduceLE, Int.reduceLT, List.forall_mem_cons, List.not_mem_nil, false_implies, implies_true, hr, hf0, hn0, Int.reduceBEq, Bool.not_true, Bool.not_false, hc] | simp only [and_assoc, true_and, go_sem, Nat.reduceAdd, Nat.reduceMul, Nat.reduceLeDiff, Nat.reduceLT, Nat.reduceEqDiff, Int.reduceToNat, Int.reduceLE, Int.reduceLT, List.forall_mem_cons, List.not_mem_nil, false_implies, implies_true, hr, hf0, hn0, Int.reduceBEq, Bool.not_true, Bool.not_false]))
          | refine awp_seq_k (fun K hK => ?_)
          | refine awp_block ?_
          | refine awp_region_w (by first | (simp; done) | assumption | (simp; omega)) (fun Q hQ => ?_)
          | refine awp_region_e [10, 11] [.quiet [0, 1], .quiet [0, 1], .quiet [0, 1], .quiet [0, 1], .quiet [0, 1], .quiet [0, 1], .quiet [0, 1], .quiet [0, 1], .quiet [0, 1], .quiet [0, 1], .eff 0, .eff 1] [34, 35, 36, 37, 38, 39, 40, 41, 42, 43, 7] mixed (by kernel_rfl) (by kernel_rfl) (by kernel_rfl) rfl rfl ?_
          | refine awp_region_q mixed (by kernel_rfl) (by kernel_rfl) rfl (by first | (simp; done) | assumption | (simp; omega)) (fun Q hQ => ?_)
          | refine callW_quiet (hck _) ?_
          | refine callQ_quiet (hck _) ?_
          | refine callE_quiet (hck _) ?_
          | refine And.intro (callR_quiet (hck _) rfl) ?_
          | refine callW_quiet (formed_q t.cols row (by omega) _) ?_
          | refine callQ_quiet (formed_q t.cols row (by omega) _) ?_
          | refine callE_quiet (formed_q t.cols row (by omega) _) ?_
          | refine And.intro (callR_quiet (formed_q t.cols row (by omega) _) rfl) ?_
          | refine callW_quiet (beside_q t.cols row nullP _ (by omega) _ (fun a b H' _ _ => fitF_q a b H')) ?_
          | refine callQ_quiet (beside_q t.cols row nullP _ (by omega) _ (fun a b H' _ _ => fitF_q a b H')) ?_
          | refine callE_quiet (beside_q t.cols row nullP _ (by omega) _ (fun a b H' _ _ => fitF_q a b H')) ?_
          | refine And.intro (callR_quiet (beside_q t.cols row nullP _ (by omega) _ (fun a b H' _ _ => fitF_q a b H')) rfl) ?_
          | refine Both.mk ?_ ?_
          | (refine hQ _ _ ?_; clear hQ Q)
          | (refine hQ _ ?_; clear hQ Q)
          | refine awp_cond_true rfl ?_
          | refine awp_cond_false rfl ?_
          | refine awp_skip ?_
          | (refine awp_exit ?_; simp only [go_sem, Nat.reduceEqDiff])
          | (refine awp_ret ?_; try simp only [inBlock_ret, andThen_ret])
          | ((first | refine hK _ ?_ | (clear hK K; refine hK _ ?_) | (clear hK K; clear hK K; refine hK _ ?_) | (clear hK K; clear hK K; clear hK K; refine hK _ ?_) | (clear hK K; clear hK K; clear hK K; clear hK K; refine hK _ ?_) | (clear hK K; clear hK K; clear hK K; clear hK K; clear hK K; refine hK _ ?_) | (clear hK K; clear hK K; clear hK K; clear hK K; clear hK K; clear hK K; refine hK _ ?_)); clear hK; clear K)
          | refine And.intro (by first | assumption | omega | trivial | rfl | (simp; done)) ?_
          | (refine awp_cond _ rfl (fun hc => ?_) (fun hc => ?_) <;> (try simp only [Bool.not_eq_true', Bool.not_eq_false'] at hc) <;> (try simp only [hc]))
          | (refine gdW_split (fun hc => ?_) (fun hc => ?_) <;> (try simp only [Bool.not_eq_true', Bool.not_eq_false'] at hc))
          | (refine gdQ_split (fun hc => ?_) (fun hc => ?_) <;> (try simp only [Bool.not_eq_true', Bool.not_eq_false'] at hc)))
        refine awp_loop_at (fun T n S => ∃ (i : Nat) , (i ≤ (t.rules).length ∧ fitL t.cols row (t.rules.drop i) = fitL t.cols row t.rules) ∧ n = (t.rules).length - i ∧ S = ⟨setT T [(27, .int .i64 (i : Int)), (4, .junk), (6, .junk), (7, .junk), (28, .junk), (29, .junk), (30, .junk), (31, .junk), (32, .junk), (33, .junk), (34, .junk), (35, .junk), (36, .junk), (37, .junk), (38, .junk), (39, .junk), (40, .junk), (41, .junk), (42, .junk), (43, .junk), (44, .junk), (45, .junk), (46, .junk), (47, .junk), (48, .junk), (49, .junk), (50, .junk), (51, .junk), (52, .junk), (53, .junk), (54, .junk), (55, .junk), (56, .junk), (57, .junk), (58, .junk), (59, .junk), (60, .junk), (61, .junk)], H ++ [.var t.cells]⟩) ?_ ?_
        · refine ⟨_, _, weak_junk ?_, 0, ⟨Nat.zero_le _, by first | rfl | assumption | (simp; done) | trivial⟩, rfl, rfl⟩
          simp only [go_sem]; simp [LeT]
        · rintro n S ⟨i, ⟨hi, hinv⟩, rfl, rfl⟩
          by_cases hlt : i < (t.rules).length
          · have hw := wrap_succ hlt (by omega)
            have hd : decide (i < (t.rules).length) = true := by simpa using hlt
            obtain ⟨a, ha⟩ : ∃ a, (t.rules)[i]? = some a := ⟨_, List.getElem?_eq_getElem hlt⟩
            have hl := look_map (g := RuleR.av) ha
            have hmem := List.mem_of_getElem? ha
            try rw [drop_cons ha] at hinv
            simp only [fitL] at hinv
            cases hk : (a.kind == 3) with
            | false =>
              simp only [hk, Bool.false_eq_true, if_false] at hinv
              repeat' (first
                | ((with_reducible first | refine isWL ?_ | refine isGW ?_ | refine isWQ ?_ | refine isGQ ?_ | refine isWE ?_ | refine isNE ?_); (first | simp only [and_assoc, true_and, go_sem, Nat.reduceAdd, Nat.reduceMul, Nat.reduceLeDiff, Nat.reduceLT, Nat.reduceEqDiff, Int.reduceToNat, Int.reduceLE, Int.reduceLT, List.forall_mem_cons, List.not_mem_nil, false_implies, implies_true, hd, hw, hl, hlt, hk, List.length_map, Bool.not_false, hc] | simp only [and_assoc, true_and, go_sem, Nat.reduceAdd, Nat.reduceMul, Nat.reduceLeDiff, Nat.reduceLT, Nat.reduceEqDiff, Int.reduceToNat, Int.reduceLE, Int.reduceLT, List.forall_mem_cons, List.not_mem_nil, false_implies, implies_true, hd, hw, hl, hlt, hk, List.length_map, Bool.not_false]))
                | refine awp_seq_k (fun K hK => ?_)
                | refine awp_block ?_
                | refine awp_region_w (by first | (simp; done) | assumption | (simp; omega)) (fun Q hQ => ?_)
                | refine awp_region_e [10, 11] [.quiet [0, 1], .quiet [0, 1], .quiet [0, 1], .quiet [0, 1], .quiet [0, 1], .quiet [0, 1], .quiet [0, 1], .quiet [0, 1], .quiet [0, 1], .quiet [0, 1], .eff 0, .eff 1] [34, 35, 36, 37, 38, 39, 40, 41, 42, 43, 7] mixed (by kernel_rfl) (by kernel_rfl) (by kernel_rfl) rfl rfl ?_
                | refine awp_region_q mixed (by kernel_rfl) (by kernel_rfl) rfl (by first | (simp; done) | assumption | (simp; omega)) (fun Q hQ => ?_)
                | refine Both.mk ?_ ?_
                | (refine hQ _ _ ?_; clear hQ Q)
                | (refine hQ _ ?_; clear hQ Q)
                | refine awp_cond_true rfl ?_
                | refine awp_cond_false rfl ?_
                | refine awp_skip ?_
                | (refine awp_exit ?_; simp only [go_sem, Nat.reduceEqDiff])
                | (refine awp_ret ?_; try simp only [inBlock_ret, andThen_ret])
                | ((first | refine hK _ ?_ | (clear hK K; refine hK _ ?_) | (clear hK K; clear hK K; refine hK _ ?_) | (clear hK K; clear hK K; clear hK K; refine hK _ ?_) | (clear hK K; clear hK K; clear hK K; clear hK K; refine hK _ ?_) | (clear hK K; clear hK K; clear hK K; clear hK K; clear hK K; refine hK _ ?_) | (clear hK K; clear hK K; clear hK K; clear hK K; clear hK K; clear hK K; refine hK _ ?_)); clear hK; clear K)
                | refine And.intro (by first | assumption | omega | trivial | rfl | (simp; done)) ?_
                | (refine awp_cond _ rfl (fun hc => ?_) (fun hc => ?_) <;> (try simp only [Bool.not_eq_true', Bool.not_eq_false'] at hc) <;> (try simp only [hc]))
                | (refine gdW_split (fun hc => ?_) (fun hc => ?_) <;> (try simp only [Bool.not_eq_true', Bool.not_eq_false'] at hc))
                | (refine gdQ_split (fun hc => ?_) (fun hc => ?_) <;> (try simp only [Bool.not_eq_true', Bool.not_eq_false'] at hc)))
              rw [andThen_normal]
              refine ⟨(t.rules).length - (i + 1), by omega, _, ?_, i + 1, ⟨by omega, hinv⟩, rfl, rfl⟩
              first
                | (refine weak_junk ?_; (try simp only [go_sem]); simp [LeT]; done)
                | (simp only [go_sem, List.map_append, List.map_cons, List.map_nil, List.length_append, List.length_cons, List.length_nil, List.length_map, Nat.zero_add, List.append_assoc, List.cons_append, List.nil_append]; refine weak_junk ?_; simp [LeT]; done)
                | ((try simp only [go_sem, List.map_append, List.map_cons, List.map_nil, List.length_append, List.length_cons, List.length_nil, List.length_map, Nat.zero_add, List.append_assoc, List.cons_append, List.nil_append]); refine weak_cut _ (by first | rfl | (simp only [List.append_assoc, List.cons_append, List.nil_append]; rfl)) (by simp) (by simp [LeT]) (by simp) (by first | exact hB | (refine hB_app hB ?_; simp; done) | (refine hB_app hB ?_; simp [or_imp, forall_and]; done) | (refine hB_app hB ?_; simp; refine forall_set ?_ ?_ <;> simp; done)); done)
            | true =>
              have hk3 : a.kind ≠ 4 := by simp only [beq_iff_eq] at hk; omega
              have hfit := alone_rule ha0 hmem
              rw [aloneRule_other hk3] at hfit
              obtain ⟨hne, hcs⟩ := fits_cols hfit
              obtain ⟨s, ss, hs⟩ : ∃ s ss, a.cols = s :: ss := by
                cases hq : a.cols with
                | nil => exact absurd hq hne
                | cons s ss => exact ⟨s, ss, rfl⟩
              have h0 := hcs s (by rw [hs]; simp)
              obtain ⟨hlt2, hlk2⟩ := valOf_look hlen h0
              simp only [hk, if_true, hs, List.headD_cons] at hinv
              repeat' (first
                | ((with_reducible first | refine isWL ?_ | refine isGW ?_ | refine isWQ ?_ | refine isGQ ?_ | refine isWE ?_ | refine isNE ?_); (first | simp only [and_assoc, true_and, go_sem, Nat.reduceAdd, Nat.reduceMul, Nat.reduceLeDiff, Nat.reduceLT, Nat.reduceEqDiff, Int.reduceToNat, Int.reduceLE, Int.reduceLT, List.forall_mem_cons, List.not_mem_nil, false_implies, implies_true, hd, hw, hl, hlt, hk, hs, hlk2, h0, hlt2, List.length_map, List.map_cons, Bool.not_true, hc] | simp only [and_assoc, true_and, go_sem, Nat.reduceAdd, Nat.reduceMul, Nat.reduceLeDiff, Nat.reduceLT, Nat.reduceEqDiff, Int.reduceToNat, Int.reduceLE, Int.reduceLT, List.forall_mem_cons, List.not_mem_nil, false_implies, implies_true, hd, hw, hl, hlt, hk, hs, hlk2, h0, hlt2, List.length_map, List.map_cons, Bool.not_true]))
                | refine awp_seq_k (fun K hK => ?_)
                | refine awp_block ?_
                | refine awp_region_w (by first | (simp; done) | assumption | (simp; omega)) (fun Q hQ => ?_)
                | refine awp_region_e [10, 11] [.quiet [0, 1], .quiet [0, 1], .quiet [0, 1], .quiet [0, 1], .quiet [0, 1], .quiet [0, 1], .quiet [0, 1], .quiet [0, 1], .quiet [0, 1], .quiet [0, 1], .eff 0, .eff 1] [34, 35, 36, 37, 38, 39, 40, 41, 42, 43, 7] mixed (by kernel_rfl) (by kernel_rfl) (by kernel_rfl) rfl rfl ?_
                | refine awp_region_q mixed (by kernel_rfl) (by kernel_rfl) rfl (by first | (simp; done) | assumption | (simp; omega)) (fun Q hQ => ?_)
                | refine callW_quiet (place_q t.cols s (by omega) _) ?_
                | refine callQ_quiet (place_q t.cols s (by omega) _) ?_
                | refine callE_quiet (place_q t.cols s (by omega) _) ?_
                | refine And.intro (callR_quiet (place_q t.cols s (by omega) _) rfl) ?_
                | refine Both.mk ?_ ?_
                | (refine hQ _ _ ?_; clear hQ Q)
                | (refine hQ _ ?_; clear hQ Q)
                | refine awp_cond_true rfl ?_
                | refine awp_cond_false rfl ?_
                | refine awp_skip ?_
                | (refine awp_exit ?_; simp only [go_sem, Nat.reduceEqDiff])
                | (refine awp_ret ?_; try simp only [inBlock_ret, andThen_ret])
                | ((first | refine hK _ ?_ | (clear hK K; refine hK _ ?_) | (clear hK K; clear hK K; refine hK _ ?_) | (clear hK K; clear hK K; clear hK K; refine hK _ ?_) | (clear hK K; clear hK K; clear hK K; clear hK K; refine hK _ ?_) | (clear hK K; clear hK K; clear hK K; clear hK K; clear hK K; refine hK _ ?_) | (clear hK K; clear hK K; clear hK K; clear hK K; clear hK K; clear hK K; refine hK _ ?_)); clear hK; clear K)
                | refine And.intro (by first | assumption | omega | trivial | rfl | (simp; done)) ?_
                | (refine awp_cond _ rfl (fun hc => ?_) (fun hc => ?_) <;> (try simp only [Bool.not_eq_true', Bool.not_eq_false'] at hc) <;> (try simp only [hc]))
                | (refine gdW_split (fun hc => ?_) (fun hc => ?_) <;> (try simp only [Bool.not_eq_true', Bool.not_eq_false'] at hc))
                | (refine gdQ_split (fun hc => ?_) (fun hc => ?_) <;> (try simp only [Bool.not_eq_true', Bool.not_eq_false'] at hc)))
              all_goals try
                (simp only [keepB, *, Bool.true_and, Bool.and_true, Bool.false_and, Bool.true_or, Bool.false_or, Bool.or_true, Bool.or_false, Bool.not_true, Bool.not_false, Bool.false_eq_true, if_false] at hinv
                 rw [← hinv]
                 exact end_quiet hB rfl rfl (by simp))
              all_goals
                simp only [keepB, *, Bool.true_and, Bool.and_true, Bool.false_and, Bool.true_or, Bool.false_or, Bool.or_true, Bool.or_false, Bool.not_true, Bool.not_false, if_true] at hinv
                rw [andThen_normal]
                refine ⟨(t.rules).length - (i + 1), by omega, _, ?_, i + 1, ⟨by omega, hinv⟩, rfl, rfl⟩
                first
                  | (refine weak_junk ?_; (try simp only [go_sem]); simp [LeT]; done)
                  | (simp only [go_sem, List.map_append, List.map_cons, List.map_nil, List.length_append, List.length_cons, List.length_nil, List.length_map, Nat.zero_add, List.append_assoc, List.cons_append, List.nil_append]; refine weak_junk ?_; simp [LeT]; done)
                  | ((try simp only [go_sem, List.map_append, List.map_cons, List.map_nil, List.length_append, List.length_cons, List.length_nil, List.length_map, Nat.zero_add, List.append_assoc, List.cons_append, List.nil_append]); refine weak_cut _ (by first | rfl | (simp only [List.append_assoc, List.cons_append, List.nil_append]; rfl)) (by simp) (by simp [LeT]) (by simp) (by first | exact hB | (refine hB_app hB ?_; simp; done) | (refine hB_app hB ?_; simp [or_imp, forall_and]; done) | (refine hB_app hB ?_; simp; refine forall_set ?_ ?_ <;> simp; done)); done)
          · have hd : decide (i < (t.rules).length) = false := by simpa using hlt
            have hnil : (t.rules).drop i = [] := List.drop_eq_nil_of_le (by omega)
            try rw [hnil] at hinv
            repeat (first
              | ((with_reducible first | refine isWL ?_ | refine isGW ?_ | refine isWQ ?_ | refine isGQ ?_ | refine isWE ?_ | refine isNE ?_); simp only [and_assoc, true_and, go_sem, Nat.reduceAdd, Nat.reduceMul, Nat.reduceLeDiff, Nat.reduceLT, Nat.reduceEqDiff, Int.reduceToNat, Int.reduceLE, Int.reduceLT, List.forall_mem_cons, List.not_mem_nil, false_implies, implies_true, hd])
              | refine awp_seq_k (fun K hK => ?_)
              | refine awp_block ?_
              | refine awp_region_w (by first | (simp; done) | assumption | (simp; omega)) (fun Q hQ => ?_)
              | refine awp_region_e [10, 11] [.quiet [0, 1], .quiet [0, 1], .quiet [0, 1], .quiet [0, 1], .quiet [0, 1], .quiet [0, 1], .quiet [0, 1], .quiet [0, 1], .quiet [0, 1], .quiet [0, 1], .eff 0, .eff 1] [34, 35, 36, 37, 38, 39, 40, 41, 42, 43, 7] mixed (by kernel_rfl) (by kernel_rfl) (by kernel_rfl) rfl rfl ?_
              | refine awp_region_q mixed (by kernel_rfl) (by kernel_rfl) rfl (by first | (simp; done) | assumption | (simp; omega)) (fun Q hQ => ?_)
              | refine Both.mk ?_ ?_
              | (refine hQ _ _ ?_; clear hQ Q)
              | (refine hQ _ ?_; clear hQ Q)
              | refine awp_cond_true rfl ?_
              | refine awp_cond_false rfl ?_
              | refine awp_skip ?_
              | (refine awp_exit ?_; simp only [go_sem, Nat.reduceEqDiff])
              | (refine awp_ret ?_; try simp only [inBlock_ret, andThen_ret])
              | ((first | refine hK _ ?_ | (clear hK K; refine hK _ ?_) | (clear hK K; clear hK K; refine hK _ ?_) | (clear hK K; clear hK K; clear hK K; refine hK _ ?_) | (clear hK K; clear hK K; clear hK K; clear hK K; refine hK _ ?_) | (clear hK K; clear hK K; clear hK K; clear hK K; clear hK K; refine hK _ ?_) | (clear hK K; clear hK K; clear hK K; clear hK K; clear hK K; clear hK K; refine hK _ ?_)); clear hK; clear K)
              | refine And.intro (by first | assumption | omega | trivial | rfl | (simp; done)) ?_)
            rw [← hinv]
            first | exact end_quiet0 rfl rfl | exact end_quiet hB rfl rfl (by simp)

end Go.Proofs.Ytamoclnnakdiaaa.Abs
