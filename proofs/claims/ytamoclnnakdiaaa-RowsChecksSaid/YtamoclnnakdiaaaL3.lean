/-
  RowsTurn and RowsBack.
  Conditions: none.
-/
import Derived.Test.YtamoclnnakdiaaaL2
namespace Go.Proofs.Ytamoclnnakdiaaa.Abs
open Go Go.RowKit
set_option linter.unusedVariables false
set_option maxRecDepth 100000
set_option maxHeartbeats 4000000
set_option linter.unusedSimpArgs false

theorem rowsTurn_q (l to : List ColR) (row : List ValR) (h1 : ∀ c, c ∈ l → tx c.name) (h2 : l.length ≤ 10000000) (h3 : ∀ c, c ∈ to → tx c.name) (h4 : to.length ≤ 10000000) (H : List AObj) :
    QuietF Go.Proofs.Try.prog 19 [.fz (l.map ColR.av), .fz (to.map ColR.av), .fz (row.map ValR.av)] H (.tuple [.fz ((turnV l to row).1.map ValR.av), .int .i64 (turnV l to row).2]) :=
  NewF.fz (rowsTurn_n l to row h1 h2 h3 h4 H) (Dfz.tupleL ⟨Dfz.slE (by simp only [go_sem]; rfl) (Nat.le_refl _) (by simp [ValR.av, AV.cells]) (by simp) (DfzE.same (by simp)), .same _ (by simp), trivial⟩)

theorem lawTurns_q (H : List AObj) : QuietF Go.Proofs.Try.prog 21 [] H (.bool true) := by
  refine ACallF.of hb_21 (acalls_body Try.func21 rfl ?_)
  intro hB hA
  rw [args0_21]
  have e1 : turnV [⟨[120], 2, false⟩, ⟨[121], 3, true⟩] [⟨[121], 3, false⟩, ⟨[122], 2, false⟩] [⟨2, 5, []⟩, ⟨3, 0, [97]⟩] = ([⟨3, 0, [97]⟩, ⟨1, 0, []⟩], 0) := by decide +kernel
  have k1 : ∀ H, QuietF Go.Proofs.Try.prog 19 [.fz [ColR.av ⟨[120], 2, false⟩, ColR.av ⟨[121], 3, true⟩], .fz [ColR.av ⟨[121], 3, false⟩, ColR.av ⟨[122], 2, false⟩], .fz [ValR.av ⟨2, 5, []⟩, ValR.av ⟨3, 0, [97]⟩]] H (.tuple [.fz [ValR.av ⟨3, 0, [97]⟩, ValR.av ⟨1, 0, []⟩], .int .i64 0]) := fun H => by
    have h := rowsTurn_q [⟨[120], 2, false⟩, ⟨[121], 3, true⟩] [⟨[121], 3, false⟩, ⟨[122], 2, false⟩] [⟨2, 5, []⟩, ⟨3, 0, [97]⟩] (by simp [tx]) (by simp) (by simp [tx]) (by simp) H
    rw [e1] at h
    exact h
  have s1 : eqL ValR.eq [⟨3, 0, [97]⟩, ⟨1, 0, []⟩] [⟨3, 0, [97]⟩, ⟨1, 0, []⟩] = true := by decide +kernel
  repeat' (first
    | ((with_reducible first | refine isWL ?_ | refine isGW ?_ | refine isWQ ?_ | refine isGQ ?_); (first | simp only [go_sem, Nat.reduceAdd, Nat.reduceMul, Nat.reduceLeDiff, Nat.reduceLT, Nat.reduceEqDiff, Int.reduceToNat, Int.reduceLE, Int.reduceLT, List.forall_mem_cons, List.not_mem_nil, false_implies, implies_true, s1, oneT, List.map_cons, List.map_nil, Int.reduceBEq, Bool.not_false, hc] | simp only [go_sem, Nat.reduceAdd, Nat.reduceMul, Nat.reduceLeDiff, Nat.reduceLT, Nat.reduceEqDiff, Int.reduceToNat, Int.reduceLE, Int.reduceLT, List.forall_mem_cons, List.not_mem_nil, false_implies, implies_true, s1, oneT, List.map_cons, List.map_nil, Int.reduceBEq, Bool.not_false]))
    | refine awp_seq_k (fun K hK => ?_)
    | refine awp_block ?_
    | refine awp_region_w (by first | (simp; done) | assumption | (simp; omega)) (fun Q hQ => ?_)
    | refine awp_region_q mixed (by kernel_rfl) (by kernel_rfl) rfl (by first | (simp; done) | assumption | (simp; omega)) (fun Q hQ => ?_)
    | refine callW_quiet (lawNum_q 5 _) ?_
    | refine callQ_quiet (lawNum_q 5 _) ?_
    | refine callW_quiet (lawWord_q [97] _) ?_
    | refine callQ_quiet (lawWord_q [97] _) ?_
    | refine callW_quiet (lawNull_q _) ?_
    | refine callQ_quiet (lawNull_q _) ?_
    | refine callW_quiet (lawOne_q _) ?_
    | refine callQ_quiet (lawOne_q _) ?_
    | refine callW_quiet (k1 _) ?_
    | refine callQ_quiet (k1 _) ?_
    | refine callW_quiet (refSame_q [⟨3, 0, [97]⟩, ⟨1, 0, []⟩] [⟨3, 0, [97]⟩, ⟨1, 0, []⟩] (by simp) _) ?_
    | refine callQ_quiet (refSame_q [⟨3, 0, [97]⟩, ⟨1, 0, []⟩] [⟨3, 0, [97]⟩, ⟨1, 0, []⟩] (by simp) _) ?_
    | refine Both.mk ?_ ?_
    | (refine hQ _ _ ?_; clear hQ Q)
    | (refine hQ _ ?_; clear hQ Q)
    | refine awp_cond_true rfl ?_
    | refine awp_cond_false rfl ?_
    | refine awp_skip ?_
    | (refine awp_exit ?_; simp only [go_sem, Nat.reduceEqDiff])
    | (refine awp_ret ?_; try simp only [inBlock_ret, andThen_ret])
    | ((first | refine hK _ ?_ | (clear hK K; refine hK _ ?_) | (clear hK K; clear hK K; refine hK _ ?_) | (clear hK K; clear hK K; clear hK K; refine hK _ ?_) | (clear hK K; clear hK K; clear hK K; clear hK K; refine hK _ ?_) | (clear hK K; clear hK K; clear hK K; clear hK K; clear hK K; refine hK _ ?_) | (clear hK K; clear hK K; clear hK K; clear hK K; clear hK K; clear hK K; refine hK _ ?_)); clear hK; clear K)
    | refine And.intro (by first | assumption | omega | trivial | rfl | (simp; done)) ?_
    | (refine awp_cond _ rfl (fun hc => ?_) (fun hc => ?_) <;> (try simp only [Bool.not_eq_true', Bool.not_eq_false'] at hc) <;> (try simp only [hc]))
    | (refine gdW_split (fun hc => ?_) (fun hc => ?_) <;> (try simp only [Bool.not_eq_true', Bool.not_eq_false'] at hc))
    | (refine gdQ_split (fun hc => ?_) (fun hc => ?_) <;> (try simp only [Bool.not_eq_true', Bool.not_eq_false'] at hc)))
  first | exact end_quiet0 rfl rfl | exact end_quiet hB rfl rfl (by simp)

theorem turnV_len (l to : List ColR) (row : List ValR) : (turnV l to row).1.length ≤ to.length := by
  unfold turnV
  split
  · split
    · split <;> simp
    · simp
  · simp

theorem rowsTurn_law (l : List ColR) (hl : (∀ c, c ∈ l → tx c.name) ∧ l.length * 32 ≤ 140737488351232) (to : List ColR) (hto : (∀ c, c ∈ to → tx c.name) ∧ to.length * 32 ≤ 140737488351232) (row : List ValR) (hrow : (∀ c, c ∈ row → tx c.text) ∧ row.length * 32 ≤ 140737488351232) (H : List AObj) :
    QuietF Go.Proofs.Try.prog 4 [.fz (l.map ColR.av), .fz (to.map ColR.av), .fz (row.map ValR.av)] H (.bool true) := by
  refine ACallF.of hb_4 (acalls_body Try.func4 rfl ?_)
  intro hB hA
  rw [args0_4]
  have hc3 : ∀ z, z ∈ row.map ValR.av → z.cells.length = 3 := by
    intro z hz
    obtain ⟨v, _, rfl⟩ := List.mem_map.1 hz
    rfl
  refine awp_seq_k (fun K hK => ?_)
  repeat (first
    | ((with_reducible first | refine isWL ?_ | refine isGW ?_ | refine isWQ ?_ | refine isGQ ?_); simp only [go_sem, Nat.reduceAdd, Nat.reduceMul, Nat.reduceLeDiff, Nat.reduceLT, Nat.reduceEqDiff, Int.reduceToNat, Int.reduceLE, Int.reduceLT, List.forall_mem_cons, List.not_mem_nil, false_implies, implies_true])
    | refine awp_region_w (by first | (simp; done) | assumption | (simp; omega)) (fun Q hQ => ?_)
    | refine awp_region_q mixed (by kernel_rfl) (by kernel_rfl) rfl (by first | (simp; done) | assumption | (simp; omega)) (fun Q hQ => ?_)
    | refine Both.mk ?_ ?_
    | (refine hQ _ _ ?_; clear hQ Q)
    | (refine hQ _ ?_; clear hQ Q)
    | refine awp_cond_true rfl ?_
    | refine awp_cond_false rfl ?_
    | refine awp_skip ?_
    | (refine awp_exit ?_; simp only [go_sem, Nat.reduceEqDiff])
    | (refine awp_ret ?_; try simp only [inBlock_ret, andThen_ret])
    | ((first | refine hK _ ?_ | (clear hK K; refine hK _ ?_) | (clear hK K; clear hK K; refine hK _ ?_) | (clear hK K; clear hK K; clear hK K; refine hK _ ?_) | (clear hK K; clear hK K; clear hK K; clear hK K; refine hK _ ?_) | (clear hK K; clear hK K; clear hK K; clear hK K; clear hK K; refine hK _ ?_) | (clear hK K; clear hK K; clear hK K; clear hK K; clear hK K; clear hK K; refine hK _ ?_)); clear hK; clear K)
    | refine And.intro (by first | assumption | omega | trivial | rfl | (simp; done)) ?_)
  refine awp_seq_fact (l.length ≤ 3000 ∧ to.length ≤ 3000 ∧ row.length ≤ 3000) [(6, .junk), (14, .junk), (15, .junk), (16, .junk), (17, .junk), (18, .junk), (19, .junk), (20, .junk), (21, .junk), (22, .junk), (23, .junk), (24, .junk), (25, .junk), (26, .junk)] (H) (fun K hK => ?_) (fun hfact => ?_)
  · repeat' (first
      | ((with_reducible first | refine isWL ?_ | refine isGW ?_ | refine isWQ ?_ | refine isGQ ?_); (first | simp only [go_sem, Nat.reduceAdd, Nat.reduceMul, Nat.reduceLeDiff, Nat.reduceLT, Nat.reduceEqDiff, Int.reduceToNat, Int.reduceLE, Int.reduceLT, List.forall_mem_cons, List.not_mem_nil, false_implies, implies_true, List.length_map, hc] | simp only [go_sem, Nat.reduceAdd, Nat.reduceMul, Nat.reduceLeDiff, Nat.reduceLT, Nat.reduceEqDiff, Int.reduceToNat, Int.reduceLE, Int.reduceLT, List.forall_mem_cons, List.not_mem_nil, false_implies, implies_true, List.length_map]))
      | refine awp_seq_k (fun K hK => ?_)
      | refine awp_block ?_
      | refine awp_region_w (by first | (simp; done) | assumption | (simp; omega)) (fun Q hQ => ?_)
      | refine awp_region_q mixed (by kernel_rfl) (by kernel_rfl) rfl (by first | (simp; done) | assumption | (simp; omega)) (fun Q hQ => ?_)
      | refine Both.mk ?_ ?_
      | (refine hQ _ _ ?_; clear hQ Q)
      | (refine hQ _ ?_; clear hQ Q)
      | refine awp_cond_true rfl ?_
      | refine awp_cond_false rfl ?_
      | refine awp_skip ?_
      | (refine awp_exit ?_; simp only [go_sem, Nat.reduceEqDiff])
      | (refine awp_ret ?_; try simp only [inBlock_ret, andThen_ret])
      | ((first | refine hK _ ?_ | (clear hK K; refine hK _ ?_) | (clear hK K; clear hK K; refine hK _ ?_) | (clear hK K; clear hK K; clear hK K; refine hK _ ?_) | (clear hK K; clear hK K; clear hK K; clear hK K; refine hK _ ?_) | (clear hK K; clear hK K; clear hK K; clear hK K; clear hK K; refine hK _ ?_) | (clear hK K; clear hK K; clear hK K; clear hK K; clear hK K; clear hK K; refine hK _ ?_)); clear hK; clear K)
      | refine And.intro (by first | assumption | omega | trivial | rfl | (simp; done)) ?_
      | (refine awp_cond _ rfl (fun hc => ?_) (fun hc => ?_) <;> (try simp only [Bool.not_eq_true', Bool.not_eq_false'] at hc) <;> (try simp only [hc]))
      | (refine gdW_split (fun hc => ?_) (fun hc => ?_) <;> (try simp only [Bool.not_eq_true', Bool.not_eq_false'] at hc))
      | (refine gdQ_split (fun hc => ?_) (fun hc => ?_) <;> (try simp only [Bool.not_eq_true', Bool.not_eq_false'] at hc)))
    all_goals try first | exact end_quiet0 rfl rfl | exact end_quiet hB rfl rfl (by simp)
    have b1 : l.length ≤ 3000 := by simp only [decide_eq_false_iff_not] at *; omega
    have b2 : to.length ≤ 3000 := by simp only [decide_eq_false_iff_not] at *; omega
    have b3 : row.length ≤ 3000 := by simp only [decide_eq_false_iff_not] at *; omega
    first | refine hK _ (⟨b1, b2, b3⟩) ?_ | (clear hK K; refine hK _ (⟨b1, b2, b3⟩) ?_) | (clear hK K; clear hK K; refine hK _ (⟨b1, b2, b3⟩) ?_) | (clear hK K; clear hK K; clear hK K; refine hK _ (⟨b1, b2, b3⟩) ?_)
    first
      | (refine weak_junk ?_; (try simp only [go_sem]); simp [LeT]; done)
      | (simp only [go_sem, List.map_append, List.map_cons, List.map_nil, List.length_append, List.length_cons, List.length_nil, List.length_map, Nat.zero_add, List.append_assoc, List.cons_append, List.nil_append]; refine weak_junk ?_; simp [LeT]; done)
      | ((try simp only [go_sem, List.map_append, List.map_cons, List.map_nil, List.length_append, List.length_cons, List.length_nil, List.length_map, Nat.zero_add, List.append_assoc, List.cons_append, List.nil_append]); refine weak_cut _ (by first | rfl | (simp only [List.append_assoc, List.cons_append, List.nil_append]; rfl)) (by simp) (by simp [LeT]) (by simp) (by first | exact hB | (refine hB_app hB ?_; simp; done) | (refine hB_app hB ?_; simp [or_imp, forall_and]; done) | (refine hB_app hB ?_; simp; refine forall_set ?_ ?_ <;> simp; done)); done)
  obtain ⟨b1, b2, b3⟩ := hfact
  have hout := turnV_len l to row
  generalize hk : turnV l to row = kv at hout
  obtain ⟨x, e⟩ := kv
  simp only at hout
  have key1 : ∀ H, NewF Go.Proofs.Try.prog 19 [.fz (l.map ColR.av), .fz (to.map ColR.av), .fz (row.map ValR.av)] H (.tuple [.sl H.length x.length 0 x.length, .int .i64 e]) [.arr x.length 24 3 (x.map ValR.av)] := fun H => by
    have h := rowsTurn_n l to row hl.1 (by omega) hto.1 (by omega) H
    rw [hk] at h
    exact h
  have key2 : ∀ H, QuietF Go.Proofs.Try.prog 20 [.fz (l.map ColR.av), .fz (to.map ColR.av), .fz (row.map ValR.av)] H (.tuple [.fz (x.map ValR.av), .int .i64 e]) := fun H => by
    have h := refTurn_q l to row hl.1 (by omega) hto.1 (by omega) H
    rw [hk] at h
    exact h
  refine awp_seq_k (fun K hK => ?_)
  repeat (first
    | ((with_reducible first | refine isWL ?_ | refine isGW ?_ | refine isWQ ?_ | refine isGQ ?_); simp only [go_sem, Nat.reduceAdd, Nat.reduceMul, Nat.reduceLeDiff, Nat.reduceLT, Nat.reduceEqDiff, Int.reduceToNat, Int.reduceLE, Int.reduceLT, List.forall_mem_cons, List.not_mem_nil, false_implies, implies_true])
    | refine awp_region_w (by first | (simp; done) | assumption | (simp; omega)) (fun Q hQ => ?_)
    | refine awp_region_q mixed (by kernel_rfl) (by kernel_rfl) rfl (by first | (simp; done) | assumption | (simp; omega)) (fun Q hQ => ?_)
    | refine Both.mk ?_ ?_
    | (refine hQ _ _ ?_; clear hQ Q)
    | (refine hQ _ ?_; clear hQ Q)
    | refine awp_cond_true rfl ?_
    | refine awp_cond_false rfl ?_
    | refine awp_skip ?_
    | (refine awp_exit ?_; simp only [go_sem, Nat.reduceEqDiff])
    | (refine awp_ret ?_; try simp only [inBlock_ret, andThen_ret])
    | ((first | refine hK _ ?_ | (clear hK K; refine hK _ ?_) | (clear hK K; clear hK K; refine hK _ ?_) | (clear hK K; clear hK K; clear hK K; refine hK _ ?_) | (clear hK K; clear hK K; clear hK K; clear hK K; refine hK _ ?_) | (clear hK K; clear hK K; clear hK K; clear hK K; clear hK K; refine hK _ ?_) | (clear hK K; clear hK K; clear hK K; clear hK K; clear hK K; clear hK K; refine hK _ ?_)); clear hK; clear K)
    | refine And.intro (by first | assumption | omega | trivial | rfl | (simp; done)) ?_)
  refine awp_seq_at [(7, .fz (row.map ValR.av)), (27, .junk), (28, .junk), (29, .junk)] (H) (fun K hK => ?_) ?_
  · repeat (first
      | ((with_reducible first | refine isWL ?_ | refine isGW ?_ | refine isWQ ?_ | refine isGQ ?_); simp only [go_sem, Nat.reduceAdd, Nat.reduceMul, Nat.reduceLeDiff, Nat.reduceLT, Nat.reduceEqDiff, Int.reduceToNat, Int.reduceLE, Int.reduceLT, List.forall_mem_cons, List.not_mem_nil, false_implies, implies_true, List.length_map])
      | refine awp_seq_k (fun K hK => ?_)
      | refine awp_block ?_
      | refine awp_region_w (by first | (simp; done) | assumption | (simp; omega)) (fun Q hQ => ?_)
      | refine awp_region_q mixed (by kernel_rfl) (by kernel_rfl) rfl (by first | (simp; done) | assumption | (simp; omega)) (fun Q hQ => ?_)
      | refine Both.mk ?_ ?_
      | (refine hQ _ _ ?_; clear hQ Q)
      | (refine hQ _ ?_; clear hQ Q)
      | refine awp_cond_true rfl ?_
      | refine awp_cond_false rfl ?_
      | refine awp_skip ?_
      | (refine awp_exit ?_; simp only [go_sem, Nat.reduceEqDiff])
      | (refine awp_ret ?_; try simp only [inBlock_ret, andThen_ret])
      | ((first | refine hK _ ?_ | (clear hK K; refine hK _ ?_) | (clear hK K; clear hK K; refine hK _ ?_) | (clear hK K; clear hK K; clear hK K; refine hK _ ?_) | (clear hK K; clear hK K; clear hK K; clear hK K; refine hK _ ?_) | (clear hK K; clear hK K; clear hK K; clear hK K; clear hK K; refine hK _ ?_) | (clear hK K; clear hK K; clear hK K; clear hK K; clear hK K; clear hK K; refine hK _ ?_)); clear hK; clear K)
      | refine And.intro (by first | assumption | omega | trivial | rfl | (simp; done) | (exact ⟨hc3, by omega⟩)) ?_)
    simp only [go_sem]
    refine weak_dfz (L := [_]) rfl (by simp) hB ?_
    repeat (first | exact trivial | refine ⟨.same _ (by simp), ?_⟩ | refine ⟨.junk _, ?_⟩ | refine ⟨Dfz.slE (by simp only [go_sem]; rfl) (by simp) hc3 (by simp) (DfzE.same (by simp)), ?_⟩)
  refine awp_seq_k (fun K hK => ?_)
  repeat (first
    | ((with_reducible first | refine isWL ?_ | refine isGW ?_ | refine isWQ ?_ | refine isGQ ?_); simp only [go_sem, Nat.reduceAdd, Nat.reduceMul, Nat.reduceLeDiff, Nat.reduceLT, Nat.reduceEqDiff, Int.reduceToNat, Int.reduceLE, Int.reduceLT, List.forall_mem_cons, List.not_mem_nil, false_implies, implies_true])
    | refine awp_region_w (by first | (simp; done) | assumption | (simp; omega)) (fun Q hQ => ?_)
    | refine awp_region_q mixed (by kernel_rfl) (by kernel_rfl) rfl (by first | (simp; done) | assumption | (simp; omega)) (fun Q hQ => ?_)
    | refine callW_new (key1 _) ?_
    | refine Both.mk ?_ ?_
    | (refine hQ _ _ ?_; clear hQ Q)
    | (refine hQ _ ?_; clear hQ Q)
    | refine awp_cond_true rfl ?_
    | refine awp_cond_false rfl ?_
    | refine awp_skip ?_
    | (refine awp_exit ?_; simp only [go_sem, Nat.reduceEqDiff])
    | (refine awp_ret ?_; try simp only [inBlock_ret, andThen_ret])
    | ((first | refine hK _ ?_ | (clear hK K; refine hK _ ?_) | (clear hK K; clear hK K; refine hK _ ?_) | (clear hK K; clear hK K; clear hK K; refine hK _ ?_) | (clear hK K; clear hK K; clear hK K; clear hK K; refine hK _ ?_) | (clear hK K; clear hK K; clear hK K; clear hK K; clear hK K; refine hK _ ?_) | (clear hK K; clear hK K; clear hK K; clear hK K; clear hK K; clear hK K; refine hK _ ?_)); clear hK; clear K)
    | refine And.intro (by first | assumption | omega | trivial | rfl | (simp; done)) ?_)
  refine awp_seq_k (fun K hK => ?_)
  repeat (first
    | ((with_reducible first | refine isWL ?_ | refine isGW ?_ | refine isWQ ?_ | refine isGQ ?_); simp only [go_sem, Nat.reduceAdd, Nat.reduceMul, Nat.reduceLeDiff, Nat.reduceLT, Nat.reduceEqDiff, Int.reduceToNat, Int.reduceLE, Int.reduceLT, List.forall_mem_cons, List.not_mem_nil, false_implies, implies_true])
    | refine awp_region_w (by first | (simp; done) | assumption | (simp; omega)) (fun Q hQ => ?_)
    | refine awp_region_q mixed (by kernel_rfl) (by kernel_rfl) rfl (by first | (simp; done) | assumption | (simp; omega)) (fun Q hQ => ?_)
    | refine callW_quiet (key2 _) ?_
    | refine callQ_quiet (key2 _) ?_
    | refine Both.mk ?_ ?_
    | (refine hQ _ _ ?_; clear hQ Q)
    | (refine hQ _ ?_; clear hQ Q)
    | refine awp_cond_true rfl ?_
    | refine awp_cond_false rfl ?_
    | refine awp_skip ?_
    | (refine awp_exit ?_; simp only [go_sem, Nat.reduceEqDiff])
    | (refine awp_ret ?_; try simp only [inBlock_ret, andThen_ret])
    | ((first | refine hK _ ?_ | (clear hK K; refine hK _ ?_) | (clear hK K; clear hK K; refine hK _ ?_) | (clear hK K; clear hK K; clear hK K; refine hK _ ?_) | (clear hK K; clear hK K; clear hK K; clear hK K; refine hK _ ?_) | (clear hK K; clear hK K; clear hK K; clear hK K; clear hK K; refine hK _ ?_) | (clear hK K; clear hK K; clear hK K; clear hK K; clear hK K; clear hK K; refine hK _ ?_)); clear hK; clear K)
    | refine And.intro (by first | assumption | omega | trivial | rfl | (simp; done)) ?_)
  refine awp_seq_k (fun K hK => ?_)
  repeat (first
    | ((with_reducible first | refine isWL ?_ | refine isGW ?_ | refine isWQ ?_ | refine isGQ ?_); simp only [go_sem, Nat.reduceAdd, Nat.reduceMul, Nat.reduceLeDiff, Nat.reduceLT, Nat.reduceEqDiff, Int.reduceToNat, Int.reduceLE, Int.reduceLT, List.forall_mem_cons, List.not_mem_nil, false_implies, implies_true, eqL_refl])
    | refine awp_region_w (by first | (simp; done) | assumption | (simp; omega)) (fun Q hQ => ?_)
    | refine awp_region_q mixed (by kernel_rfl) (by kernel_rfl) rfl (by first | (simp; done) | assumption | (simp; omega)) (fun Q hQ => ?_)
    | refine callW_quiet (QuietF.thaw (fun H' => refSame_q x x (by omega) H') ⟨Dfz.slE (by simp only [go_sem]; rfl) (Nat.zero_le _) (by simp [ValR.av, AV.cells]) (by simp) (DfzE.same (by simp)), .same _ (by simp), trivial⟩ (by simp)) ?_
    | refine callQ_quiet (QuietF.thaw (fun H' => refSame_q x x (by omega) H') ⟨Dfz.slE (by simp only [go_sem]; rfl) (Nat.zero_le _) (by simp [ValR.av, AV.cells]) (by simp) (DfzE.same (by simp)), .same _ (by simp), trivial⟩ (by simp)) ?_
    | refine Both.mk ?_ ?_
    | (refine hQ _ _ ?_; clear hQ Q)
    | (refine hQ _ ?_; clear hQ Q)
    | refine awp_cond_true rfl ?_
    | refine awp_cond_false rfl ?_
    | refine awp_skip ?_
    | (refine awp_exit ?_; simp only [go_sem, Nat.reduceEqDiff])
    | (refine awp_ret ?_; try simp only [inBlock_ret, andThen_ret])
    | ((first | refine hK _ ?_ | (clear hK K; refine hK _ ?_) | (clear hK K; clear hK K; refine hK _ ?_) | (clear hK K; clear hK K; clear hK K; refine hK _ ?_) | (clear hK K; clear hK K; clear hK K; clear hK K; refine hK _ ?_) | (clear hK K; clear hK K; clear hK K; clear hK K; clear hK K; refine hK _ ?_) | (clear hK K; clear hK K; clear hK K; clear hK K; clear hK K; clear hK K; refine hK _ ?_)); clear hK; clear K)
    | refine And.intro (by first | assumption | omega | trivial | rfl | (simp; done)) ?_)
  repeat (first
    | ((with_reducible first | refine isWL ?_ | refine isGW ?_ | refine isWQ ?_ | refine isGQ ?_); simp only [go_sem, Nat.reduceAdd, Nat.reduceMul, Nat.reduceLeDiff, Nat.reduceLT, Nat.reduceEqDiff, Int.reduceToNat, Int.reduceLE, Int.reduceLT, List.forall_mem_cons, List.not_mem_nil, false_implies, implies_true])
    | refine awp_seq_k (fun K hK => ?_)
    | refine awp_block ?_
    | refine awp_region_w (by first | (simp; done) | assumption | (simp; omega)) (fun Q hQ => ?_)
    | refine awp_region_q mixed (by kernel_rfl) (by kernel_rfl) rfl (by first | (simp; done) | assumption | (simp; omega)) (fun Q hQ => ?_)
    | refine Both.mk ?_ ?_
    | (refine hQ _ _ ?_; clear hQ Q)
    | (refine hQ _ ?_; clear hQ Q)
    | refine awp_cond_true rfl ?_
    | refine awp_cond_false rfl ?_
    | refine awp_skip ?_
    | (refine awp_exit ?_; simp only [go_sem, Nat.reduceEqDiff])
    | (refine awp_ret ?_; try simp only [inBlock_ret, andThen_ret])
    | ((first | refine hK _ ?_ | (clear hK K; refine hK _ ?_) | (clear hK K; clear hK K; refine hK _ ?_) | (clear hK K; clear hK K; clear hK K; refine hK _ ?_) | (clear hK K; clear hK K; clear hK K; clear hK K; refine hK _ ?_) | (clear hK K; clear hK K; clear hK K; clear hK K; clear hK K; refine hK _ ?_) | (clear hK K; clear hK K; clear hK K; clear hK K; clear hK K; clear hK K; refine hK _ ?_)); clear hK; clear K)
    | refine And.intro (by first | assumption | omega | trivial | rfl | (simp; done)) ?_)
  refine awp_loop_at (fun T n S => ∃ (i : Nat) (els : List ValR), (i ≤ (x).length ∧ els.length = x.length) ∧ n = (x).length - i ∧ S = ⟨setT T [(13, .int .i64 (i : Int)), (47, .junk), (48, .junk), (49, .junk), (50, .junk), (51, .junk), (52, .junk), (53, .junk), (54, .junk), (55, .junk), (56, .junk)], H ++ [.arr x.length 24 3 (els.map ValR.av)]⟩) ?_ ?_
  · refine ⟨_, _, weak_junk ?_, 0, x, ⟨Nat.zero_le _, by first | rfl | assumption | (simp; done) | trivial⟩, rfl, rfl⟩
    simp only [go_sem]; simp [LeT]
  · rintro n S ⟨i, els, ⟨hi, hinv⟩, rfl, rfl⟩
    by_cases hlt : i < (x).length
    · have hw := wrap_succ hlt (by omega)
      have hd : decide (i < (x).length) = true := by simpa using hlt
      obtain ⟨a, ha⟩ : ∃ a, (x)[i]? = some a := ⟨_, List.getElem?_eq_getElem hlt⟩
      have hmem := List.mem_of_getElem? ha
      try rw [drop_cons ha] at hinv
      have hlt2 : i < els.length := by omega
      obtain ⟨b, hb2⟩ : ∃ b, els[i]? = some b := ⟨_, List.getElem?_eq_getElem hlt2⟩
      have hl2 := look_map (g := ValR.av) hb2
      repeat' (first
        | ((with_reducible first | refine isWL ?_ | refine isGW ?_ | refine isWQ ?_ | refine isGQ ?_); (first | simp only [go_sem, Nat.reduceAdd, Nat.reduceMul, Nat.reduceLeDiff, Nat.reduceLT, Nat.reduceEqDiff, Int.reduceToNat, Int.reduceLE, Int.reduceLT, List.forall_mem_cons, List.not_mem_nil, false_implies, implies_true, hd, hw, hlt, hl2, hinv, List.length_map, hc] | simp only [go_sem, Nat.reduceAdd, Nat.reduceMul, Nat.reduceLeDiff, Nat.reduceLT, Nat.reduceEqDiff, Int.reduceToNat, Int.reduceLE, Int.reduceLT, List.forall_mem_cons, List.not_mem_nil, false_implies, implies_true, hd, hw, hlt, hl2, hinv, List.length_map]))
        | refine awp_seq_k (fun K hK => ?_)
        | refine awp_block ?_
        | refine awp_region_w (by first | (simp; done) | assumption | (simp; omega)) (fun Q hQ => ?_)
        | refine awp_region_q mixed (by kernel_rfl) (by kernel_rfl) rfl (by first | (simp; done) | assumption | (simp; omega)) (fun Q hQ => ?_)
        | refine Both.mk ?_ ?_
        | (refine hQ _ _ ?_; clear hQ Q)
        | (refine hQ _ ?_; clear hQ Q)
        | refine awp_cond_true rfl ?_
        | refine awp_cond_false rfl ?_
        | refine awp_skip ?_
        | (refine awp_exit ?_; simp only [go_sem, Nat.reduceEqDiff])
        | (refine awp_ret ?_; try simp only [inBlock_ret, andThen_ret])
        | ((first | refine hK _ ?_ | (clear hK K; refine hK _ ?_) | (clear hK K; clear hK K; refine hK _ ?_) | (clear hK K; clear hK K; clear hK K; refine hK _ ?_) | (clear hK K; clear hK K; clear hK K; clear hK K; refine hK _ ?_) | (clear hK K; clear hK K; clear hK K; clear hK K; clear hK K; refine hK _ ?_) | (clear hK K; clear hK K; clear hK K; clear hK K; clear hK K; clear hK K; refine hK _ ?_)); clear hK; clear K)
        | refine And.intro (by first | assumption | omega | trivial | rfl | (simp; done)) ?_
        | (refine awp_cond _ rfl (fun hc => ?_) (fun hc => ?_) <;> (try simp only [Bool.not_eq_true', Bool.not_eq_false'] at hc) <;> (try simp only [hc]))
        | (refine gdW_split (fun hc => ?_) (fun hc => ?_) <;> (try simp only [Bool.not_eq_true', Bool.not_eq_false'] at hc))
        | (refine gdQ_split (fun hc => ?_) (fun hc => ?_) <;> (try simp only [Bool.not_eq_true', Bool.not_eq_false'] at hc)))
      rw [andThen_normal]
      refine ⟨(x).length - (i + 1), by omega, _, ?_, i + 1, els.set i b.set77, ⟨by omega, by simp [hinv]⟩, rfl, rfl⟩
      first
        | (refine weak_junk ?_; (try simp only [go_sem]); simp [LeT]; done)
        | (simp only [go_sem, List.map_append, List.map_cons, List.map_nil, List.length_append, List.length_cons, List.length_nil, List.length_map, Nat.zero_add, List.append_assoc, List.cons_append, List.nil_append, List.map_set, ValR.set77]; refine weak_junk ?_; simp [LeT]; done)
        | ((try simp only [go_sem, List.map_append, List.map_cons, List.map_nil, List.length_append, List.length_cons, List.length_nil, List.length_map, Nat.zero_add, List.append_assoc, List.cons_append, List.nil_append, List.map_set, ValR.set77]); refine weak_cut _ (by first | rfl | (simp only [List.append_assoc, List.cons_append, List.nil_append]; rfl)) (by simp) (by simp [LeT]) (by simp) (by first | exact hB | (refine hB_app hB ?_; simp; done) | (refine hB_app hB ?_; simp [or_imp, forall_and]; done) | (refine hB_app hB ?_; simp; refine forall_set ?_ ?_ <;> simp; done)); done)
    · have hd : decide (i < (x).length) = false := by simpa using hlt
      have hnil : (x).drop i = [] := List.drop_eq_nil_of_le (by omega)
      try rw [hnil] at hinv
      repeat' (first
        | ((with_reducible first | refine isWL ?_ | refine isGW ?_ | refine isWQ ?_ | refine isGQ ?_); (first | simp only [go_sem, Nat.reduceAdd, Nat.reduceMul, Nat.reduceLeDiff, Nat.reduceLT, Nat.reduceEqDiff, Int.reduceToNat, Int.reduceLE, Int.reduceLT, List.forall_mem_cons, List.not_mem_nil, false_implies, implies_true, hd, eqL_refl, beq_self_eq_true, List.length_map, hc] | simp only [go_sem, Nat.reduceAdd, Nat.reduceMul, Nat.reduceLeDiff, Nat.reduceLT, Nat.reduceEqDiff, Int.reduceToNat, Int.reduceLE, Int.reduceLT, List.forall_mem_cons, List.not_mem_nil, false_implies, implies_true, hd, eqL_refl, beq_self_eq_true, List.length_map]))
        | refine awp_seq_k (fun K hK => ?_)
        | refine awp_block ?_
        | refine awp_region_w (by first | (simp; done) | assumption | (simp; omega)) (fun Q hQ => ?_)
        | refine awp_region_q mixed (by kernel_rfl) (by kernel_rfl) rfl (by first | (simp; done) | assumption | (simp; omega)) (fun Q hQ => ?_)
        | refine callW_quiet (lawTurns_q _) ?_
        | refine callQ_quiet (lawTurns_q _) ?_
        | refine callW_quiet (refSame_q row row (by omega) _) ?_
        | refine callQ_quiet (refSame_q row row (by omega) _) ?_
        | refine Both.mk ?_ ?_
        | (refine hQ _ _ ?_; clear hQ Q)
        | (refine hQ _ ?_; clear hQ Q)
        | refine awp_cond_true rfl ?_
        | refine awp_cond_false rfl ?_
        | refine awp_skip ?_
        | (refine awp_exit ?_; simp only [go_sem, Nat.reduceEqDiff])
        | (refine awp_ret ?_; try simp only [inBlock_ret, andThen_ret])
        | ((first | refine hK _ ?_ | (clear hK K; refine hK _ ?_) | (clear hK K; clear hK K; refine hK _ ?_) | (clear hK K; clear hK K; clear hK K; refine hK _ ?_) | (clear hK K; clear hK K; clear hK K; clear hK K; refine hK _ ?_) | (clear hK K; clear hK K; clear hK K; clear hK K; clear hK K; refine hK _ ?_) | (clear hK K; clear hK K; clear hK K; clear hK K; clear hK K; clear hK K; refine hK _ ?_)); clear hK; clear K)
        | refine And.intro (by first | assumption | omega | trivial | rfl | (simp; done)) ?_
        | (refine awp_cond _ rfl (fun hc => ?_) (fun hc => ?_) <;> (try simp only [Bool.not_eq_true', Bool.not_eq_false'] at hc) <;> (try simp only [hc]))
        | (refine gdW_split (fun hc => ?_) (fun hc => ?_) <;> (try simp only [Bool.not_eq_true', Bool.not_eq_false'] at hc))
        | (refine gdQ_split (fun hc => ?_) (fun hc => ?_) <;> (try simp only [Bool.not_eq_true', Bool.not_eq_false'] at hc)))
      first | exact end_quiet0 rfl rfl | exact end_quiet hB rfl rfl (by simp)

/-! ## what is turned back -/
theorem idxOf_at2 {l : List ColR} (h : colsB l = true) {i : Nat} {c : ColR} (hi : l[i]? = some c) : idxOf (fun d => d.name == c.name) l = (i : Int) := by
  unfold colsB at h
  simp only [Bool.and_eq_true] at h
  have := (List.all_eq_true.1 h.2) i (List.mem_range.2 (lt_of_get hi))
  rw [okCol_at hi] at this
  simp only [Bool.and_eq_true, beq_iff_eq] at this
  exact this.2

theorem allP_get {α β : Type} {p : α → β → Bool} : ∀ {xs : List α} {ys : List β}, allP p xs ys = true → ∀ (i : Nat) (a : α) (b : β), xs[i]? = some a → ys[i]? = some b → p a b = true
  | [], [], _, i, a, b, h, _ => by simp at h
  | x :: xs, y :: ys, h, i, a, b, ha, hb => by
    simp only [allP, Bool.and_eq_true] at h
    cases i with
    | zero => simp only [List.getElem?_cons_zero, Option.some.injEq] at ha hb; subst ha hb; exact h.1
    | succ i => exact allP_get h.2 i a b (by simpa using ha) (by simpa using hb)
  | [], _ :: _, h, _, _, _, _, _ => by simp [allP] at h
  | _ :: _, [], h, _, _, _, _, _ => by simp [allP] at h

theorem turn_self {l : List ColR} {row : List ValR} (hl : colsB l = true) (hf : allP formP l row = true) : l.map (turn1 l row) = row := by
  have hlen := allP_eq_len hf
  apply List.ext_getElem?
  intro i
  rw [List.getElem?_map]
  rcases Nat.lt_or_ge i l.length with h | h
  · have hc : l[i]? = some l[i] := List.getElem?_eq_getElem h
    have hv : row[i]? = some row[i] := List.getElem?_eq_getElem (by omega)
    rw [hc, hv, Option.map_some]
    have hix := idxOf_at2 hl hc
    unfold turn1 valOf kindAt
    rw [hix, Int.toNat_natCast, hc, hv]
    simp
  · rw [List.getElem?_eq_none h, List.getElem?_eq_none (by omega)]
    rfl

theorem turn_form {l to : List ColR} {row : List ValR} (hf : allP formP l row = true) : allP formP to (to.map (turn1 l row)) = true := by
  have hlen := allP_eq_len hf
  have one : ∀ c, formP c (turn1 l row c) = true := by
    intro c
    unfold turn1
    split
    · rename_i h
      simp only [Bool.and_eq_true, decide_eq_true_eq, beq_iff_eq] at h
      obtain ⟨h0, hk⟩ := h
      have h1 := idxOf_lt (p := fun d : ColR => d.name == c.name) (l := l)
      have hi : (idxOf (fun d => d.name == c.name) l).toNat < l.length := by omega
      have hc : l[(idxOf (fun d => d.name == c.name) l).toNat]? = some _ := List.getElem?_eq_getElem hi
      have hv : row[(idxOf (fun d => d.name == c.name) l).toNat]? = some _ := List.getElem?_eq_getElem (by omega)
      have hp := allP_get hf _ _ _ hc hv
      unfold valOf
      rw [hv, Option.getD_some]
      unfold kindAt at hk
      rw [hc] at hk
      simp only at hk
      unfold formP at hp ⊢
      rw [hk] at hp
      exact hp
    · simp [formP, valB]
  induction to with
  | nil => rfl
  | cons c to ih => simp only [List.map_cons, allP, one, ih, Bool.and_self]

theorem rowsBack_law (l : List ColR) (hl : (∀ c, c ∈ l → tx c.name) ∧ l.length * 32 ≤ 140737488351232) (to : List ColR) (hto : (∀ c, c ∈ to → tx c.name) ∧ to.length * 32 ≤ 140737488351232) (row : List ValR) (hrow : (∀ c, c ∈ row → tx c.text) ∧ row.length * 32 ≤ 140737488351232) (H : List AObj) :
    QuietF Go.Proofs.Try.prog 7 [.fz (l.map ColR.av), .fz (to.map ColR.av), .fz (row.map ValR.av)] H (.bool true) := by
  refine ACallF.of hb_7 (acalls_body Try.func7 rfl ?_)
  intro hB hA
  rw [args0_7]
  refine awp_seq_k (fun K hK => ?_)
  repeat (first
    | ((with_reducible first | refine isWL ?_ | refine isGW ?_ | refine isWQ ?_ | refine isGQ ?_); simp only [go_sem, Nat.reduceAdd, Nat.reduceMul, Nat.reduceLeDiff, Nat.reduceLT, Nat.reduceEqDiff, Int.reduceToNat, Int.reduceLE, Int.reduceLT, List.forall_mem_cons, List.not_mem_nil, false_implies, implies_true])
    | refine awp_region_w (by first | (simp; done) | assumption | (simp; omega)) (fun Q hQ => ?_)
    | refine awp_region_q mixed (by kernel_rfl) (by kernel_rfl) rfl (by first | (simp; done) | assumption | (simp; omega)) (fun Q hQ => ?_)
    | refine Both.mk ?_ ?_
    | (refine hQ _ _ ?_; clear hQ Q)
    | (refine hQ _ ?_; clear hQ Q)
    | refine awp_cond_true rfl ?_
    | refine awp_cond_false rfl ?_
    | refine awp_skip ?_
    | (refine awp_exit ?_; simp only [go_sem, Nat.reduceEqDiff])
    | (refine awp_ret ?_; try simp only [inBlock_ret, andThen_ret])
    | ((first | refine hK _ ?_ | (clear hK K; refine hK _ ?_) | (clear hK K; clear hK K; refine hK _ ?_) | (clear hK K; clear hK K; clear hK K; refine hK _ ?_) | (clear hK K; clear hK K; clear hK K; clear hK K; refine hK _ ?_) | (clear hK K; clear hK K; clear hK K; clear hK K; clear hK K; refine hK _ ?_) | (clear hK K; clear hK K; clear hK K; clear hK K; clear hK K; clear hK K; refine hK _ ?_)); clear hK; clear K)
    | refine And.intro (by first | assumption | omega | trivial | rfl | (simp; done)) ?_)
  refine awp_seq_fact (l.length ≤ 3000 ∧ to.length ≤ 3000 ∧ row.length ≤ 3000) [(6, .junk), (13, .junk), (14, .junk), (15, .junk), (16, .junk), (17, .junk), (18, .junk), (19, .junk), (20, .junk), (21, .junk), (22, .junk), (23, .junk), (24, .junk), (25, .junk)] (H) (fun K hK => ?_) (fun hfact => ?_)
  · repeat' (first
      | ((with_reducible first | refine isWL ?_ | refine isGW ?_ | refine isWQ ?_ | refine isGQ ?_); (first | simp only [go_sem, Nat.reduceAdd, Nat.reduceMul, Nat.reduceLeDiff, Nat.reduceLT, Nat.reduceEqDiff, Int.reduceToNat, Int.reduceLE, Int.reduceLT, List.forall_mem_cons, List.not_mem_nil, false_implies, implies_true, List.length_map, hc] | simp only [go_sem, Nat.reduceAdd, Nat.reduceMul, Nat.reduceLeDiff, Nat.reduceLT, Nat.reduceEqDiff, Int.reduceToNat, Int.reduceLE, Int.reduceLT, List.forall_mem_cons, List.not_mem_nil, false_implies, implies_true, List.length_map]))
      | refine awp_seq_k (fun K hK => ?_)
      | refine awp_block ?_
      | refine awp_region_w (by first | (simp; done) | assumption | (simp; omega)) (fun Q hQ => ?_)
      | refine awp_region_q mixed (by kernel_rfl) (by kernel_rfl) rfl (by first | (simp; done) | assumption | (simp; omega)) (fun Q hQ => ?_)
      | refine Both.mk ?_ ?_
      | (refine hQ _ _ ?_; clear hQ Q)
      | (refine hQ _ ?_; clear hQ Q)
      | refine awp_cond_true rfl ?_
      | refine awp_cond_false rfl ?_
      | refine awp_skip ?_
      | (refine awp_exit ?_; simp only [go_sem, Nat.reduceEqDiff])
      | (refine awp_ret ?_; try simp only [inBlock_ret, andThen_ret])
      | ((first | refine hK _ ?_ | (clear hK K; refine hK _ ?_) | (clear hK K; clear hK K; refine hK _ ?_) | (clear hK K; clear hK K; clear hK K; refine hK _ ?_) | (clear hK K; clear hK K; clear hK K; clear hK K; refine hK _ ?_) | (clear hK K; clear hK K; clear hK K; clear hK K; clear hK K; refine hK _ ?_) | (clear hK K; clear hK K; clear hK K; clear hK K; clear hK K; clear hK K; refine hK _ ?_)); clear hK; clear K)
      | refine And.intro (by first | assumption | omega | trivial | rfl | (simp; done)) ?_
      | (refine awp_cond _ rfl (fun hc => ?_) (fun hc => ?_) <;> (try simp only [Bool.not_eq_true', Bool.not_eq_false'] at hc) <;> (try simp only [hc]))
      | (refine gdW_split (fun hc => ?_) (fun hc => ?_) <;> (try simp only [Bool.not_eq_true', Bool.not_eq_false'] at hc))
      | (refine gdQ_split (fun hc => ?_) (fun hc => ?_) <;> (try simp only [Bool.not_eq_true', Bool.not_eq_false'] at hc)))
    all_goals try first | exact end_quiet0 rfl rfl | exact end_quiet hB rfl rfl (by simp)
    have b1 : l.length ≤ 3000 := by simp only [decide_eq_false_iff_not] at *; omega
    have b2 : to.length ≤ 3000 := by simp only [decide_eq_false_iff_not] at *; omega
    have b3 : row.length ≤ 3000 := by simp only [decide_eq_false_iff_not] at *; omega
    first | refine hK _ (⟨b1, b2, b3⟩) ?_ | (clear hK K; refine hK _ (⟨b1, b2, b3⟩) ?_) | (clear hK K; clear hK K; refine hK _ (⟨b1, b2, b3⟩) ?_) | (clear hK K; clear hK K; clear hK K; refine hK _ (⟨b1, b2, b3⟩) ?_)
    first
      | (refine weak_junk ?_; (try simp only [go_sem]); simp [LeT]; done)
      | (simp only [go_sem, List.map_append, List.map_cons, List.map_nil, List.length_append, List.length_cons, List.length_nil, List.length_map, Nat.zero_add, List.append_assoc, List.cons_append, List.nil_append]; refine weak_junk ?_; simp [LeT]; done)
      | ((try simp only [go_sem, List.map_append, List.map_cons, List.map_nil, List.length_append, List.length_cons, List.length_nil, List.length_map, Nat.zero_add, List.append_assoc, List.cons_append, List.nil_append]); refine weak_cut _ (by first | rfl | (simp only [List.append_assoc, List.cons_append, List.nil_append]; rfl)) (by simp) (by simp [LeT]) (by simp) (by first | exact hB | (refine hB_app hB ?_; simp; done) | (refine hB_app hB ?_; simp [or_imp, forall_and]; done) | (refine hB_app hB ?_; simp; refine forall_set ?_ ?_ <;> simp; done)); done)
  obtain ⟨b1, b2, b3⟩ := hfact
  have t1 := fun H => rowsTurn_q l to row hl.1 (by omega) hto.1 (by omega) H
  have err : ∀ e : Int, (turnV l to row) = ([], e) → (e == 0) = false → QuietF Go.Proofs.Try.prog 19 [.fz (l.map ColR.av), .fz (to.map ColR.av), .fz (row.map ValR.av)] H (.tuple [.fz [], .int .i64 e]) := fun e he _ => by
    have h := t1 H
    rw [he] at h
    exact h
  by_cases hok : colsB l = true ∧ colsB to = true ∧ allP formP l row = true
  · obtain ⟨c1, c2, c3⟩ := hok
    have hv : turnV l to row = (to.map (turn1 l row), 0) := by simp [turnV, alone_cols, c1, c2, c3]
    have hv2 : turnV l l row = (row, 0) := by simp [turnV, alone_cols, c1, c3, turn_self c1 c3]
    have hform := turn_form (to := to) c3
    have hv3 : turnV to to (to.map (turn1 l row)) = (to.map (turn1 l row), 0) := by simp [turnV, alone_cols, c2, hform, turn_self c2 hform]
    generalize hx : to.map (turn1 l row) = x at hv hv3
    have hxl : x.length ≤ 3000 := by rw [← hx]; simp; omega
    have q1 : ∀ H, QuietF Go.Proofs.Try.prog 19 [.fz (l.map ColR.av), .fz (to.map ColR.av), .fz (row.map ValR.av)] H (.tuple [.fz (x.map ValR.av), .int .i64 0]) := fun H => by
      have h := t1 H
      rw [hv] at h
      exact h
    have q2 : ∀ H, QuietF Go.Proofs.Try.prog 19 [.fz (l.map ColR.av), .fz (l.map ColR.av), .fz (row.map ValR.av)] H (.tuple [.fz (row.map ValR.av), .int .i64 0]) := fun H => by
      have h := rowsTurn_q l l row hl.1 (by omega) hl.1 (by omega) H
      rw [hv2] at h
      exact h
    have q3 : ∀ H, QuietF Go.Proofs.Try.prog 19 [.fz (to.map ColR.av), .fz (to.map ColR.av), .fz (x.map ValR.av)] H (.tuple [.fz (x.map ValR.av), .int .i64 0]) := fun H => by
      have h := rowsTurn_q to to x hto.1 (by omega) hto.1 (by omega) H
      rw [hv3] at h
      exact h
    refine awp_seq_k (fun K hK => ?_)
    repeat (first
      | ((with_reducible first | refine isWL ?_ | refine isGW ?_ | refine isWQ ?_ | refine isGQ ?_); simp only [go_sem, Nat.reduceAdd, Nat.reduceMul, Nat.reduceLeDiff, Nat.reduceLT, Nat.reduceEqDiff, Int.reduceToNat, Int.reduceLE, Int.reduceLT, List.forall_mem_cons, List.not_mem_nil, false_implies, implies_true])
      | refine awp_region_w (by first | (simp; done) | assumption | (simp; omega)) (fun Q hQ => ?_)
      | refine awp_region_q mixed (by kernel_rfl) (by kernel_rfl) rfl (by first | (simp; done) | assumption | (simp; omega)) (fun Q hQ => ?_)
      | refine callW_quiet (q1 _) ?_
      | refine callQ_quiet (q1 _) ?_
      | refine Both.mk ?_ ?_
      | (refine hQ _ _ ?_; clear hQ Q)
      | (refine hQ _ ?_; clear hQ Q)
      | refine awp_cond_true rfl ?_
      | refine awp_cond_false rfl ?_
      | refine awp_skip ?_
      | (refine awp_exit ?_; simp only [go_sem, Nat.reduceEqDiff])
      | (refine awp_ret ?_; try simp only [inBlock_ret, andThen_ret])
      | ((first | refine hK _ ?_ | (clear hK K; refine hK _ ?_) | (clear hK K; clear hK K; refine hK _ ?_) | (clear hK K; clear hK K; clear hK K; refine hK _ ?_) | (clear hK K; clear hK K; clear hK K; clear hK K; refine hK _ ?_) | (clear hK K; clear hK K; clear hK K; clear hK K; clear hK K; refine hK _ ?_) | (clear hK K; clear hK K; clear hK K; clear hK K; clear hK K; clear hK K; refine hK _ ?_)); clear hK; clear K)
      | refine And.intro (by first | assumption | omega | trivial | rfl | (simp; done)) ?_)
    refine awp_seq_at [(6, .junk), (33, .junk), (34, .junk), (35, .junk), (36, .junk), (37, .junk), (38, .junk), (39, .junk), (40, .junk)] (H) (fun K hK => ?_) ?_
    · repeat' (first
        | ((with_reducible first | refine isWL ?_ | refine isGW ?_ | refine isWQ ?_ | refine isGQ ?_); (first | simp only [go_sem, Nat.reduceAdd, Nat.reduceMul, Nat.reduceLeDiff, Nat.reduceLT, Nat.reduceEqDiff, Int.reduceToNat, Int.reduceLE, Int.reduceLT, List.forall_mem_cons, List.not_mem_nil, false_implies, implies_true, Int.reduceBEq, Bool.not_true, hc] | simp only [go_sem, Nat.reduceAdd, Nat.reduceMul, Nat.reduceLeDiff, Nat.reduceLT, Nat.reduceEqDiff, Int.reduceToNat, Int.reduceLE, Int.reduceLT, List.forall_mem_cons, List.not_mem_nil, false_implies, implies_true, Int.reduceBEq, Bool.not_true]))
        | refine awp_seq_k (fun K hK => ?_)
        | refine awp_block ?_
        | refine awp_region_w (by first | (simp; done) | assumption | (simp; omega)) (fun Q hQ => ?_)
        | refine awp_region_q mixed (by kernel_rfl) (by kernel_rfl) rfl (by first | (simp; done) | assumption | (simp; omega)) (fun Q hQ => ?_)
        | refine Both.mk ?_ ?_
        | (refine hQ _ _ ?_; clear hQ Q)
        | (refine hQ _ ?_; clear hQ Q)
        | refine awp_cond_true rfl ?_
        | refine awp_cond_false rfl ?_
        | refine awp_skip ?_
        | (refine awp_exit ?_; simp only [go_sem, Nat.reduceEqDiff])
        | (refine awp_ret ?_; try simp only [inBlock_ret, andThen_ret])
        | ((first | refine hK _ ?_ | (clear hK K; refine hK _ ?_) | (clear hK K; clear hK K; refine hK _ ?_) | (clear hK K; clear hK K; clear hK K; refine hK _ ?_) | (clear hK K; clear hK K; clear hK K; clear hK K; refine hK _ ?_) | (clear hK K; clear hK K; clear hK K; clear hK K; clear hK K; refine hK _ ?_) | (clear hK K; clear hK K; clear hK K; clear hK K; clear hK K; clear hK K; refine hK _ ?_)); clear hK; clear K)
        | refine And.intro (by first | assumption | omega | trivial | rfl | (simp; done)) ?_
        | (refine awp_cond _ rfl (fun hc => ?_) (fun hc => ?_) <;> (try simp only [Bool.not_eq_true', Bool.not_eq_false'] at hc) <;> (try simp only [hc]))
        | (refine gdW_split (fun hc => ?_) (fun hc => ?_) <;> (try simp only [Bool.not_eq_true', Bool.not_eq_false'] at hc))
        | (refine gdQ_split (fun hc => ?_) (fun hc => ?_) <;> (try simp only [Bool.not_eq_true', Bool.not_eq_false'] at hc)))
      first
        | (refine weak_junk ?_; (try simp only [go_sem]); simp [LeT]; done)
        | (simp only [go_sem, List.map_append, List.map_cons, List.map_nil, List.length_append, List.length_cons, List.length_nil, List.length_map, Nat.zero_add, List.append_assoc, List.cons_append, List.nil_append]; refine weak_junk ?_; simp [LeT]; done)
        | ((try simp only [go_sem, List.map_append, List.map_cons, List.map_nil, List.length_append, List.length_cons, List.length_nil, List.length_map, Nat.zero_add, List.append_assoc, List.cons_append, List.nil_append]); refine weak_cut _ (by first | rfl | (simp only [List.append_assoc, List.cons_append, List.nil_append]; rfl)) (by simp) (by simp [LeT]) (by simp) (by first | exact hB | (refine hB_app hB ?_; simp; done) | (refine hB_app hB ?_; simp [or_imp, forall_and]; done) | (refine hB_app hB ?_; simp; refine forall_set ?_ ?_ <;> simp; done)); done)
    refine awp_seq_k (fun K hK => ?_)
    repeat (first
      | ((with_reducible first | refine isWL ?_ | refine isGW ?_ | refine isWQ ?_ | refine isGQ ?_); simp only [go_sem, Nat.reduceAdd, Nat.reduceMul, Nat.reduceLeDiff, Nat.reduceLT, Nat.reduceEqDiff, Int.reduceToNat, Int.reduceLE, Int.reduceLT, List.forall_mem_cons, List.not_mem_nil, false_implies, implies_true])
      | refine awp_region_w (by first | (simp; done) | assumption | (simp; omega)) (fun Q hQ => ?_)
      | refine awp_region_q mixed (by kernel_rfl) (by kernel_rfl) rfl (by first | (simp; done) | assumption | (simp; omega)) (fun Q hQ => ?_)
      | refine callW_quiet (q2 _) ?_
      | refine callQ_quiet (q2 _) ?_
      | refine Both.mk ?_ ?_
      | (refine hQ _ _ ?_; clear hQ Q)
      | (refine hQ _ ?_; clear hQ Q)
      | refine awp_cond_true rfl ?_
      | refine awp_cond_false rfl ?_
      | refine awp_skip ?_
      | (refine awp_exit ?_; simp only [go_sem, Nat.reduceEqDiff])
      | (refine awp_ret ?_; try simp only [inBlock_ret, andThen_ret])
      | ((first | refine hK _ ?_ | (clear hK K; refine hK _ ?_) | (clear hK K; clear hK K; refine hK _ ?_) | (clear hK K; clear hK K; clear hK K; refine hK _ ?_) | (clear hK K; clear hK K; clear hK K; clear hK K; refine hK _ ?_) | (clear hK K; clear hK K; clear hK K; clear hK K; clear hK K; refine hK _ ?_) | (clear hK K; clear hK K; clear hK K; clear hK K; clear hK K; clear hK K; refine hK _ ?_)); clear hK; clear K)
      | refine And.intro (by first | assumption | omega | trivial | rfl | (simp; done)) ?_)
    refine awp_seq_k (fun K hK => ?_)
    repeat (first
      | ((with_reducible first | refine isWL ?_ | refine isGW ?_ | refine isWQ ?_ | refine isGQ ?_); simp only [go_sem, Nat.reduceAdd, Nat.reduceMul, Nat.reduceLeDiff, Nat.reduceLT, Nat.reduceEqDiff, Int.reduceToNat, Int.reduceLE, Int.reduceLT, List.forall_mem_cons, List.not_mem_nil, false_implies, implies_true])
      | refine awp_region_w (by first | (simp; done) | assumption | (simp; omega)) (fun Q hQ => ?_)
      | refine awp_region_q mixed (by kernel_rfl) (by kernel_rfl) rfl (by first | (simp; done) | assumption | (simp; omega)) (fun Q hQ => ?_)
      | refine callW_quiet (q3 _) ?_
      | refine callQ_quiet (q3 _) ?_
      | refine Both.mk ?_ ?_
      | (refine hQ _ _ ?_; clear hQ Q)
      | (refine hQ _ ?_; clear hQ Q)
      | refine awp_cond_true rfl ?_
      | refine awp_cond_false rfl ?_
      | refine awp_skip ?_
      | (refine awp_exit ?_; simp only [go_sem, Nat.reduceEqDiff])
      | (refine awp_ret ?_; try simp only [inBlock_ret, andThen_ret])
      | ((first | refine hK _ ?_ | (clear hK K; refine hK _ ?_) | (clear hK K; clear hK K; refine hK _ ?_) | (clear hK K; clear hK K; clear hK K; refine hK _ ?_) | (clear hK K; clear hK K; clear hK K; clear hK K; refine hK _ ?_) | (clear hK K; clear hK K; clear hK K; clear hK K; clear hK K; refine hK _ ?_) | (clear hK K; clear hK K; clear hK K; clear hK K; clear hK K; clear hK K; refine hK _ ?_)); clear hK; clear K)
      | refine And.intro (by first | assumption | omega | trivial | rfl | (simp; done)) ?_)
    repeat' (first
      | ((with_reducible first | refine isWL ?_ | refine isGW ?_ | refine isWQ ?_ | refine isGQ ?_); (first | simp only [go_sem, Nat.reduceAdd, Nat.reduceMul, Nat.reduceLeDiff, Nat.reduceLT, Nat.reduceEqDiff, Int.reduceToNat, Int.reduceLE, Int.reduceLT, List.forall_mem_cons, List.not_mem_nil, false_implies, implies_true, eqL_refl, Int.reduceBEq, hc] | simp only [go_sem, Nat.reduceAdd, Nat.reduceMul, Nat.reduceLeDiff, Nat.reduceLT, Nat.reduceEqDiff, Int.reduceToNat, Int.reduceLE, Int.reduceLT, List.forall_mem_cons, List.not_mem_nil, false_implies, implies_true, eqL_refl, Int.reduceBEq]))
      | refine awp_seq_k (fun K hK => ?_)
      | refine awp_block ?_
      | refine awp_region_w (by first | (simp; done) | assumption | (simp; omega)) (fun Q hQ => ?_)
      | refine awp_region_q mixed (by kernel_rfl) (by kernel_rfl) rfl (by first | (simp; done) | assumption | (simp; omega)) (fun Q hQ => ?_)
      | refine callW_quiet (lawTurns_q _) ?_
      | refine callQ_quiet (lawTurns_q _) ?_
      | refine callW_quiet (rowsSame_q row row (by omega) _) ?_
      | refine callQ_quiet (rowsSame_q row row (by omega) _) ?_
      | refine callW_quiet (rowsSame_q x x (by omega) _) ?_
      | refine callQ_quiet (rowsSame_q x x (by omega) _) ?_
      | refine Both.mk ?_ ?_
      | (refine hQ _ _ ?_; clear hQ Q)
      | (refine hQ _ ?_; clear hQ Q)
      | refine awp_cond_true rfl ?_
      | refine awp_cond_false rfl ?_
      | refine awp_skip ?_
      | (refine awp_exit ?_; simp only [go_sem, Nat.reduceEqDiff])
      | (refine awp_ret ?_; try simp only [inBlock_ret, andThen_ret])
      | ((first | refine hK _ ?_ | (clear hK K; refine hK _ ?_) | (clear hK K; clear hK K; refine hK _ ?_) | (clear hK K; clear hK K; clear hK K; refine hK _ ?_) | (clear hK K; clear hK K; clear hK K; clear hK K; refine hK _ ?_) | (clear hK K; clear hK K; clear hK K; clear hK K; clear hK K; refine hK _ ?_) | (clear hK K; clear hK K; clear hK K; clear hK K; clear hK K; clear hK K; refine hK _ ?_)); clear hK; clear K)
      | refine And.intro (by first | assumption | omega | trivial | rfl | (simp; done)) ?_
      | (refine awp_cond _ rfl (fun hc => ?_) (fun hc => ?_) <;> (try simp only [Bool.not_eq_true', Bool.not_eq_false'] at hc) <;> (try simp only [hc]))
      | (refine gdW_split (fun hc => ?_) (fun hc => ?_) <;> (try simp only [Bool.not_eq_true', Bool.not_eq_false'] at hc))
      | (refine gdQ_split (fun hc => ?_) (fun hc => ?_) <;> (try simp only [Bool.not_eq_true', Bool.not_eq_false'] at hc)))
    first | exact end_quiet0 rfl rfl | exact end_quiet hB rfl rfl (by simp)
  · obtain ⟨e, he, hne⟩ : ∃ e : Int, turnV l to row = ([], e) ∧ (e == 0) = false := by
      unfold turnV
      rw [alone_cols, alone_cols]
      by_cases c1 : colsB l = true
      · by_cases c2 : colsB to = true
        · by_cases c3 : allP formP l row = true
          · exact absurd ⟨c1, c2, c3⟩ hok
          · exact ⟨100, by simp [c1, c2, c3], rfl⟩
        · exact ⟨1, by simp [c1, c2], rfl⟩
      · exact ⟨1, by simp [c1], rfl⟩
    repeat' (first
      | ((with_reducible first | refine isWL ?_ | refine isGW ?_ | refine isWQ ?_ | refine isGQ ?_); (first | simp only [go_sem, Nat.reduceAdd, Nat.reduceMul, Nat.reduceLeDiff, Nat.reduceLT, Nat.reduceEqDiff, Int.reduceToNat, Int.reduceLE, Int.reduceLT, List.forall_mem_cons, List.not_mem_nil, false_implies, implies_true, hne, Int.reduceBEq, Bool.not_false, List.length_nil, hc] | simp only [go_sem, Nat.reduceAdd, Nat.reduceMul, Nat.reduceLeDiff, Nat.reduceLT, Nat.reduceEqDiff, Int.reduceToNat, Int.reduceLE, Int.reduceLT, List.forall_mem_cons, List.not_mem_nil, false_implies, implies_true, hne, Int.reduceBEq, Bool.not_false, List.length_nil]))
      | refine awp_seq_k (fun K hK => ?_)
      | refine awp_block ?_
      | refine awp_region_w (by first | (simp; done) | assumption | (simp; omega)) (fun Q hQ => ?_)
      | refine awp_region_q mixed (by kernel_rfl) (by kernel_rfl) rfl (by first | (simp; done) | assumption | (simp; omega)) (fun Q hQ => ?_)
      | refine callW_quiet (err e he hne) ?_
      | refine callQ_quiet (err e he hne) ?_
      | refine callW_quiet (lawTurns_q _) ?_
      | refine callQ_quiet (lawTurns_q _) ?_
      | refine Both.mk ?_ ?_
      | (refine hQ _ _ ?_; clear hQ Q)
      | (refine hQ _ ?_; clear hQ Q)
      | refine awp_cond_true rfl ?_
      | refine awp_cond_false rfl ?_
      | refine awp_skip ?_
      | (refine awp_exit ?_; simp only [go_sem, Nat.reduceEqDiff])
      | (refine awp_ret ?_; try simp only [inBlock_ret, andThen_ret])
      | ((first | refine hK _ ?_ | (clear hK K; refine hK _ ?_) | (clear hK K; clear hK K; refine hK _ ?_) | (clear hK K; clear hK K; clear hK K; refine hK _ ?_) | (clear hK K; clear hK K; clear hK K; clear hK K; refine hK _ ?_) | (clear hK K; clear hK K; clear hK K; clear hK K; clear hK K; refine hK _ ?_) | (clear hK K; clear hK K; clear hK K; clear hK K; clear hK K; clear hK K; refine hK _ ?_)); clear hK; clear K)
      | refine And.intro (by first | assumption | omega | trivial | rfl | (simp; done)) ?_
      | (refine awp_cond _ rfl (fun hc => ?_) (fun hc => ?_) <;> (try simp only [Bool.not_eq_true', Bool.not_eq_false'] at hc) <;> (try simp only [hc]))
      | (refine gdW_split (fun hc => ?_) (fun hc => ?_) <;> (try simp only [Bool.not_eq_true', Bool.not_eq_false'] at hc))
      | (refine gdQ_split (fun hc => ?_) (fun hc => ?_) <;> (try simp only [Bool.not_eq_true', Bool.not_eq_false'] at hc)))
    first | exact end_quiet0 rfl rfl | exact end_quiet hB rfl rfl (by simp)

end Go.Proofs.Ytamoclnnakdiaaa.Abs
