/-
  What the laws on rows are called with; RowsMay and RowsFit.
  Conditions: none.
-/
import Derived.Test.YtamoclnnakdiaaaC21
namespace Go.Proofs.Ytamoclnnakdiaaa.Abs
open Go Go.RowKit
set_option linter.unusedVariables false
set_option maxRecDepth 100000
set_option maxHeartbeats 4000000
set_option linter.unusedSimpArgs false

section
variable {Hh : Type} {enc : TypeId × Value → Hh} {w : World} {ρ : Nat → Nat}

def ValR.cells (v : ValR) : List AV := [.int .i64 v.kind, .int .i64 v.num, .str v.text]
theorem opn_val : Opn enc Go.Proofs.Try.prog w ρ 24 (fun avs => ∃ v : ValR, tx v.text ∧ avs = v.cells) := by
  refine (Opn.struct fo_24 co_24 (.cons _ _ _ _ _ _ _ co_22 (.int un_22 co_22) (.cons _ _ _ _ _ _ _ co_3 opn_int (.cons _ _ _ _ _ _ _ co_9 opn_text (.nil _))))).mono ?_
  rintro avs ⟨_, _, ⟨k, _, rfl⟩, ⟨_, _, ⟨n, _, rfl⟩, ⟨_, _, ⟨s, hs, rfl⟩, rfl, rfl⟩, rfl⟩, rfl⟩
  exact ⟨⟨k, n, s⟩, hs, rfl⟩

theorem opn_vals : Opn enc Go.Proofs.Try.prog w ρ 29 (fun avs => ∃ l : List ValR, ((∀ c, c ∈ l → tx c.text) ∧ l.length * 32 ≤ 140737488351232) ∧ avs = [.fz (l.map ValR.av)]) :=
  Opn.sliceOf opn_val (fun c => rfl) un_29 co_29 (by rw [co_24]; simp) ⟨AV.agg, fun c => rfl⟩ _ by_29

def RuleR.opn (r : RuleR) : Prop := r.ok ∧ r.cols.length * 16 ≤ 140737488351232
theorem opn_rule2 : Opn enc Go.Proofs.Try.prog w ρ 50 (fun avs => ∃ r : RuleR, r.opn ∧ avs = r.cells) := by
  refine (Opn.struct fo_50 co_50 (.cons _ _ _ _ _ _ _ co_9 opn_text (.cons _ _ _ _ _ _ _ co_47 (.int un_47 co_47)
    (.cons _ _ _ _ _ _ _ co_48 opn_texts (.cons _ _ _ _ _ _ _ co_3 opn_int (.cons _ _ _ _ _ _ _ co_3 opn_int (.cons _ _ _ _ _ _ _ co_9 opn_text (.cons _ _ _ _ _ _ _ co_9 opn_text
    (.cons _ _ _ _ _ _ _ co_9 opn_text (.nil _)))))))))).mono ?_
  rintro avs ⟨_, _, ⟨n, hn, rfl⟩, ⟨_, _, ⟨k, _, rfl⟩, ⟨_, _, ⟨l, ⟨hl, hl2⟩, rfl⟩, ⟨_, _, ⟨lo, _, rfl⟩, ⟨_, _, ⟨hi, _, rfl⟩, ⟨_, _, ⟨s, hs, rfl⟩, ⟨_, _, ⟨t, ht, rfl⟩, ⟨_, _, ⟨y, hy, rfl⟩, rfl, rfl⟩, rfl⟩, rfl⟩, rfl⟩, rfl⟩, rfl⟩, rfl⟩, rfl⟩
  exact ⟨⟨n, k, l, lo, hi, s, t, y⟩, ⟨⟨hn, hl, hs, ht, hy⟩, hl2⟩, rfl⟩

theorem opn_rules : Opn enc Go.Proofs.Try.prog w ρ 26 (fun avs => ∃ l : List RuleR, ((∀ c, c ∈ l → c.opn) ∧ l.length * 112 ≤ 140737488351232) ∧ avs = [.fz (l.map RuleR.av)]) :=
  Opn.sliceOf opn_rule2 (fun c => rfl) un_26 co_26 (by rw [co_50]; simp) ⟨AV.agg, fun c => rfl⟩ _ by_26

def TableR.opn (t : TableR) : Prop := (tx t.schema ∧ tx t.name ∧ tx t.owner) ∧ (∀ c, c ∈ t.cols → tx c.name) ∧ t.cols.length * 32 ≤ 140737488351232 ∧ (∀ r, r ∈ t.rules → r.opn) ∧ t.rules.length * 112 ≤ 140737488351232
theorem opn_table : Opn enc Go.Proofs.Try.prog w ρ 28 (fun avs => ∃ t : TableR, t.opn ∧ avs = t.cells) := by
  refine (Opn.struct fo_28 co_28 (.cons _ _ _ _ _ _ _ co_9 opn_text (.cons _ _ _ _ _ _ _ co_9 opn_text (.cons _ _ _ _ _ _ _ co_9 opn_text
    (.cons _ _ _ _ _ _ _ co_25 opn_cols (.cons _ _ _ _ _ _ _ co_26 opn_rules (.nil _))))))).mono ?_
  rintro avs ⟨_, _, ⟨s, hs, rfl⟩, ⟨_, _, ⟨n, hn, rfl⟩, ⟨_, _, ⟨o, ho, rfl⟩, ⟨_, _, ⟨l, ⟨hl, hl2⟩, rfl⟩, ⟨_, _, ⟨q, ⟨hq, hq2⟩, rfl⟩, rfl, rfl⟩, rfl⟩, rfl⟩, rfl⟩, rfl⟩
  exact ⟨⟨s, n, o, l, q⟩, ⟨⟨hs, hn, ho⟩, hl, hl2, hq, hq2⟩, rfl⟩
end

theorem TableR.opn_large {t : TableR} {row : List ValR} (ht : t.opn) (hr : row.length * 32 ≤ 140737488351232) (H : List AObj) : QuietF Go.Proofs.Try.prog 11 [TableR.av t, .fz (row.map ValR.av)] H (.bool (largeB t row)) :=
  large_q t row ht.2.2.1 ht.2.2.2.2 hr (fun r h => (ht.2.2.2.1 r h).2) H
theorem TableR.opn_fit {t : TableR} {row : List ValR} (ht : t.opn) (h : largeB t row = false) : t.fit ∧ row.length ≤ 3000 :=
  large_fit h ht.1 ht.2.1 (fun r h => (ht.2.2.2.1 r h).1)

theorem eqL_refl : ∀ l : List ValR, eqL ValR.eq l l = true
  | [] => rfl
  | v :: l => by simp [eqL, ValR.eq, eqL_refl l]

theorem rowsFit_law (t : TableR) (ht : t.opn) (row : List ValR) (hrow : (∀ c, c ∈ row → tx c.text) ∧ row.length * 32 ≤ 140737488351232) (H : List AObj) : QuietF Go.Proofs.Try.prog 5 [.agg t.cells, .fz (row.map ValR.av)] H (.bool true) := by
  refine ACallF.of hb_5 (acalls_body Try.func5 rfl ?_)
  intro hB hA
  rw [args0_5]
  cases hb : largeB t row with
  | true =>
    repeat' (first
      | ((with_reducible first | refine isWL ?_ | refine isGW ?_ | refine isWQ ?_ | refine isGQ ?_); (first | simp only [go_sem, Nat.reduceAdd, Nat.reduceMul, Nat.reduceLeDiff, Nat.reduceLT, Nat.reduceEqDiff, Int.reduceToNat, Int.reduceLE, Int.reduceLT, List.forall_mem_cons, List.not_mem_nil, false_implies, implies_true, hb, hc] | simp only [go_sem, Nat.reduceAdd, Nat.reduceMul, Nat.reduceLeDiff, Nat.reduceLT, Nat.reduceEqDiff, Int.reduceToNat, Int.reduceLE, Int.reduceLT, List.forall_mem_cons, List.not_mem_nil, false_implies, implies_true, hb]))
      | refine awp_seq_k (fun K hK => ?_)
      | refine awp_block ?_
      | refine awp_region_w (by first | (simp; done) | assumption | (simp; omega)) (fun Q hQ => ?_)
      | refine awp_region_q mixed (by kernel_rfl) (by kernel_rfl) rfl (by first | (simp; done) | assumption | (simp; omega)) (fun Q hQ => ?_)
      | refine callW_quiet (TableR.opn_large ht hrow.2 _) ?_
      | refine callQ_quiet (TableR.opn_large ht hrow.2 _) ?_
      | refine Both.mk ?_ ?_
      | (refine hQ _ _ ?_; clear hQ Q)
      | (refine hQ _ ?_; clear hQ Q)
      | refine awp_cond_true rfl ?_
      | refine awp_cond_false rfl ?_
      | refine awp_skip ?_
      | (refine awp_exit ?_; simp only [go_sem, Nat.reduceEqDiff])
      | (refine awp_ret ?_; try simp only [inBlock_ret, andThen_ret])
      | ((first | refine hK _ ?_ | (clear hK K; refine hK _ ?_) | (clear hK K; clear hK K; refine hK _ ?_) | (clear hK K; clear hK K; clear hK K; refine hK _ ?_) | (clear hK K; clear hK K; clear hK K; clear hK K; refine hK _ ?_) | (clear hK K; clear hK K; clear hK K; clear hK K; clear hK K; refine hK _ ?_) | (clear hK K; clear hK K; clear hK K; clear hK K; clear hK K; clear hK K; refine hK _ ?_)); clear hK; clear K)
      | refine And.intro (by first | assumption | omega | trivial | rfl | (simp; done)) ?_
      | (refine awp_cond _ rfl (fun hc => ?_) (fun hc => ?_) <;> (try simp only [Bool.not_eq_true', Bool.not_eq_false'] at hc) <;> (try simp only [hc]))
      | (refine gdW_split (fun hc => ?_) (fun hc => ?_) <;> (try simp only [Bool.not_eq_true', Bool.not_eq_false'] at hc))
      | (refine gdQ_split (fun hc => ?_) (fun hc => ?_) <;> (try simp only [Bool.not_eq_true', Bool.not_eq_false'] at hc)))
    first | exact end_quiet0 rfl rfl | exact end_quiet hB rfl rfl (by simp)
  | false =>
    obtain ⟨hf, hr⟩ := TableR.opn_fit ht hb
    repeat' (first
      | ((with_reducible first | refine isWL ?_ | refine isGW ?_ | refine isWQ ?_ | refine isGQ ?_); (first | simp only [go_sem, Nat.reduceAdd, Nat.reduceMul, Nat.reduceLeDiff, Nat.reduceLT, Nat.reduceEqDiff, Int.reduceToNat, Int.reduceLE, Int.reduceLT, List.forall_mem_cons, List.not_mem_nil, false_implies, implies_true, hb, beq_self_eq_true, hc] | simp only [go_sem, Nat.reduceAdd, Nat.reduceMul, Nat.reduceLeDiff, Nat.reduceLT, Nat.reduceEqDiff, Int.reduceToNat, Int.reduceLE, Int.reduceLT, List.forall_mem_cons, List.not_mem_nil, false_implies, implies_true, hb, beq_self_eq_true]))
      | refine awp_seq_k (fun K hK => ?_)
      | refine awp_block ?_
      | refine awp_region_w (by first | (simp; done) | assumption | (simp; omega)) (fun Q hQ => ?_)
      | refine awp_region_q mixed (by kernel_rfl) (by kernel_rfl) rfl (by first | (simp; done) | assumption | (simp; omega)) (fun Q hQ => ?_)
      | refine callW_quiet (TableR.opn_large ht hrow.2 _) ?_
      | refine callQ_quiet (TableR.opn_large ht hrow.2 _) ?_
      | refine callW_quiet (lawFits_q _) ?_
      | refine callQ_quiet (lawFits_q _) ?_
      | refine callW_quiet (rowsFit_q t row hf _) ?_
      | refine callQ_quiet (rowsFit_q t row hf _) ?_
      | refine callW_quiet (refFit_q t row hf _) ?_
      | refine callQ_quiet (refFit_q t row hf _) ?_
      | refine Both.mk ?_ ?_
      | (refine hQ _ _ ?_; clear hQ Q)
      | (refine hQ _ ?_; clear hQ Q)
      | refine awp_cond_true rfl ?_
      | refine awp_cond_false rfl ?_
      | refine awp_skip ?_
      | (refine awp_exit ?_; simp only [go_sem, Nat.reduceEqDiff])
      | (refine awp_ret ?_; try simp only [inBlock_ret, andThen_ret])
      | ((first | refine hK _ ?_ | (clear hK K; refine hK _ ?_) | (clear hK K; clear hK K; refine hK _ ?_) | (clear hK K; clear hK K; clear hK K; refine hK _ ?_) | (clear hK K; clear hK K; clear hK K; clear hK K; refine hK _ ?_) | (clear hK K; clear hK K; clear hK K; clear hK K; clear hK K; refine hK _ ?_) | (clear hK K; clear hK K; clear hK K; clear hK K; clear hK K; clear hK K; refine hK _ ?_)); clear hK; clear K)
      | refine And.intro (by first | assumption | omega | trivial | rfl | (simp; done)) ?_
      | (refine awp_cond _ rfl (fun hc => ?_) (fun hc => ?_) <;> (try simp only [Bool.not_eq_true', Bool.not_eq_false'] at hc) <;> (try simp only [hc]))
      | (refine gdW_split (fun hc => ?_) (fun hc => ?_) <;> (try simp only [Bool.not_eq_true', Bool.not_eq_false'] at hc))
      | (refine gdQ_split (fun hc => ?_) (fun hc => ?_) <;> (try simp only [Bool.not_eq_true', Bool.not_eq_false'] at hc)))
    first | exact end_quiet0 rfl rfl | exact end_quiet hB rfl rfl (by simp)

end Go.Proofs.Ytamoclnnakdiaaa.Abs
