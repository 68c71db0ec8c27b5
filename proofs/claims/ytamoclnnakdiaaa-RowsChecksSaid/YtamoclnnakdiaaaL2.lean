/-
  RowsKey and RowsTurn.
  Conditions: none.
-/
import Derived.Test.YtamoclnnakdiaaaC22
namespace Go.Proofs.Ytamoclnnakdiaaa.Abs
open Go Go.RowKit
set_option linter.unusedVariables false
set_option maxRecDepth 100000
set_option maxHeartbeats 4000000
set_option linter.unusedSimpArgs false

theorem lawKeys_q (H : List AObj) : QuietF Go.Proofs.Try.prog 27 [] H (.bool true) := by
  refine ACallF.of hb_27 (acalls_body Try.func27 rfl ?_)
  intro hB hA
  rw [args0_27]
  have e1 : keyV oneT [107] [⟨2, 5, []⟩, ⟨3, 0, [97]⟩] = ([⟨3, 0, [97]⟩, ⟨2, 5, []⟩], true, 0) := by decide +kernel
  have e2 : keyV oneT [107] [⟨2, 5, []⟩, ⟨1, 0, []⟩] = ([⟨1, 0, []⟩, ⟨2, 5, []⟩], false, 0) := by decide +kernel
  have k1 : ∀ H, QuietF Go.Proofs.Try.prog 25 [TableR.av oneT, .str [107], .fz [ValR.av ⟨2, 5, []⟩, ValR.av ⟨3, 0, [97]⟩]] H (.tuple [.fz [ValR.av ⟨3, 0, [97]⟩, ValR.av ⟨2, 5, []⟩], .bool true, .int .i64 0]) := fun H => by
    have h := rowsKey_n oneT [107] [⟨2, 5, []⟩, ⟨3, 0, [97]⟩] oneT_fit H
    rw [e1] at h
    refine NewF.fz h (Dfz.tupleL ⟨Dfz.slE (by simp only [go_sem]; rfl) (Nat.le_refl _) (by simp [ValR.av, AV.cells]) rfl (DfzE.same (by simp)), .same _ (by simp), .same _ (by simp), trivial⟩)
  have k2 : ∀ H, QuietF Go.Proofs.Try.prog 25 [TableR.av oneT, .str [107], .fz [ValR.av ⟨2, 5, []⟩, ValR.av ⟨1, 0, []⟩]] H (.tuple [.fz [ValR.av ⟨1, 0, []⟩, ValR.av ⟨2, 5, []⟩], .bool false, .int .i64 0]) := fun H => by
    have h := rowsKey_n oneT [107] [⟨2, 5, []⟩, ⟨1, 0, []⟩] oneT_fit H
    rw [e2] at h
    refine NewF.fz h (Dfz.tupleL ⟨Dfz.slE (by simp only [go_sem]; rfl) (Nat.le_refl _) (by simp [ValR.av, AV.cells]) rfl (DfzE.same (by simp)), .same _ (by simp), .same _ (by simp), trivial⟩)
  have s1 : eqL ValR.eq [⟨3, 0, [97]⟩, ⟨2, 5, []⟩] [⟨3, 0, [97]⟩, ⟨2, 5, []⟩] = true := by decide +kernel
  repeat' (first
    | ((with_reducible first | refine isWL ?_ | refine isGW ?_ | refine isWQ ?_ | refine isGQ ?_); (first | simp only [go_sem, Nat.reduceAdd, Nat.reduceMul, Nat.reduceLeDiff, Nat.reduceLT, Nat.reduceEqDiff, Int.reduceToNat, Int.reduceLE, Int.reduceLT, List.forall_mem_cons, List.not_mem_nil, false_implies, implies_true, s1, Int.reduceBEq, Bool.not_false, hc] | simp only [go_sem, Nat.reduceAdd, Nat.reduceMul, Nat.reduceLeDiff, Nat.reduceLT, Nat.reduceEqDiff, Int.reduceToNat, Int.reduceLE, Int.reduceLT, List.forall_mem_cons, List.not_mem_nil, false_implies, implies_true, s1, Int.reduceBEq, Bool.not_false]))
    | refine awp_seq_k (fun K hK => ?_)
    | refine awp_block ?_
    | refine awp_region_w (by first | (simp; done) | assumption | (simp; omega)) (fun Q hQ => ?_)
    | refine awp_region_q mixed (by kernel_rfl) (by kernel_rfl) rfl (by first | (simp; done) | assumption | (simp; omega)) (fun Q hQ => ?_)
    | refine callW_quiet (lawNum_q 5 _) ?_
    | refine callQ_quiet (lawNum_q 5 _) ?_
    | refine callW_quiet (lawWord_q [97] _) ?_
    | refine callQ_quiet (lawWord_q [97] _) ?_
    | refine callW_quiet (lawNull_q _) ?_
    | refine callQ_quiet (lawNull_q _) ?_
    | refine callW_quiet (lawOne_q _) ?_
    | refine callQ_quiet (lawOne_q _) ?_
    | refine callW_quiet (k1 _) ?_
    | refine callQ_quiet (k1 _) ?_
    | refine callW_quiet (k2 _) ?_
    | refine callQ_quiet (k2 _) ?_
    | refine callW_quiet (refSame_q [⟨3, 0, [97]⟩, ⟨2, 5, []⟩] [⟨3, 0, [97]⟩, ⟨2, 5, []⟩] (by simp) _) ?_
    | refine callQ_quiet (refSame_q [⟨3, 0, [97]⟩, ⟨2, 5, []⟩] [⟨3, 0, [97]⟩, ⟨2, 5, []⟩] (by simp) _) ?_
    | refine Both.mk ?_ ?_
    | (refine hQ _ _ ?_; clear hQ Q)
    | (refine hQ _ ?_; clear hQ Q)
    | refine awp_cond_true rfl ?_
    | refine awp_cond_false rfl ?_
    | refine awp_skip ?_
    | (refine awp_exit ?_; simp only [go_sem, Nat.reduceEqDiff])
    | (refine awp_ret ?_; try simp only [inBlock_ret, andThen_ret])
    | ((first | refine hK _ ?_ | (clear hK K; refine hK _ ?_) | (clear hK K; clear hK K; refine hK _ ?_) | (clear hK K; clear hK K; clear hK K; refine hK _ ?_) | (clear hK K; clear hK K; clear hK K; clear hK K; refine hK _ ?_) | (clear hK K; clear hK K; clear hK K; clear hK K; clear hK K; refine hK _ ?_) | (clear hK K; clear hK K; clear hK K; clear hK K; clear hK K; clear hK K; refine hK _ ?_)); clear hK; clear K)
    | refine And.intro (by first | assumption | omega | trivial | rfl | (simp; done)) ?_
    | (refine awp_cond _ rfl (fun hc => ?_) (fun hc => ?_) <;> (try simp only [Bool.not_eq_true', Bool.not_eq_false'] at hc) <;> (try simp only [hc]))
    | (refine gdW_split (fun hc => ?_) (fun hc => ?_) <;> (try simp only [Bool.not_eq_true', Bool.not_eq_false'] at hc))
    | (refine gdQ_split (fun hc => ?_) (fun hc => ?_) <;> (try simp only [Bool.not_eq_true', Bool.not_eq_false'] at hc)))
  first | exact end_quiet0 rfl rfl | exact end_quiet hB rfl rfl (by simp)

def ValR.set77 (v : ValR) : ValR := ⟨v.kind, 77, v.text⟩

theorem rowsKey_law (t : TableR) (ht : t.opn) (rule : List UInt8) (hrule : tx rule) (row : List ValR) (hrow : (∀ c, c ∈ row → tx c.text) ∧ row.length * 32 ≤ 140737488351232) (H : List AObj) : QuietF Go.Proofs.Try.prog 6 [.agg t.cells, .str rule, .fz (row.map ValR.av)] H (.bool true) := by
  refine ACallF.of hb_6 (acalls_body Try.func6 rfl ?_)
  intro hB hA
  rw [args0_6]
  cases hb : largeB t row with
  | true =>
    repeat' (first
      | ((with_reducible first | refine isWL ?_ | refine isGW ?_ | refine isWQ ?_ | refine isGQ ?_); (first | simp only [go_sem, Nat.reduceAdd, Nat.reduceMul, Nat.reduceLeDiff, Nat.reduceLT, Nat.reduceEqDiff, Int.reduceToNat, Int.reduceLE, Int.reduceLT, List.forall_mem_cons, List.not_mem_nil, false_implies, implies_true, hb, hc] | simp only [go_sem, Nat.reduceAdd, Nat.reduceMul, Nat.reduceLeDiff, Nat.reduceLT, Nat.reduceEqDiff, Int.reduceToNat, Int.reduceLE, Int.reduceLT, List.forall_mem_cons, List.not_mem_nil, false_implies, implies_true, hb]))
      | refine awp_seq_k (fun K hK => ?_)
      | refine awp_block ?_
      | refine awp_region_w (by first | (simp; done) | assumption | (simp; omega)) (fun Q hQ => ?_)
      | refine awp_region_q mixed (by kernel_rfl) (by kernel_rfl) rfl (by first | (simp; done) | assumption | (simp; omega)) (fun Q hQ => ?_)
      | refine callW_quiet (TableR.opn_large ht hrow.2 _) ?_
      | refine callQ_quiet (TableR.opn_large ht hrow.2 _) ?_
      | refine Both.mk ?_ ?_
      | (refine hQ _ _ ?_; clear hQ Q)
      | (refine hQ _ ?_; clear hQ Q)
      | refine awp_cond_true rfl ?_
      | refine awp_cond_false rfl ?_
      | refine awp_skip ?_
      | (refine awp_exit ?_; simp only [go_sem, Nat.reduceEqDiff])
      | (refine awp_ret ?_; try simp only [inBlock_ret, andThen_ret])
      | ((first | refine hK _ ?_ | (clear hK K; refine hK _ ?_) | (clear hK K; clear hK K; refine hK _ ?_) | (clear hK K; clear hK K; clear hK K; refine hK _ ?_) | (clear hK K; clear hK K; clear hK K; clear hK K; refine hK _ ?_) | (clear hK K; clear hK K; clear hK K; clear hK K; clear hK K; refine hK _ ?_) | (clear hK K; clear hK K; clear hK K; clear hK K; clear hK K; clear hK K; refine hK _ ?_)); clear hK; clear K)
      | refine And.intro (by first | assumption | omega | trivial | rfl | (simp; done)) ?_
      | (refine awp_cond _ rfl (fun hc => ?_) (fun hc => ?_) <;> (try simp only [Bool.not_eq_true', Bool.not_eq_false'] at hc) <;> (try simp only [hc]))
      | (refine gdW_split (fun hc => ?_) (fun hc => ?_) <;> (try simp only [Bool.not_eq_true', Bool.not_eq_false'] at hc))
      | (refine gdQ_split (fun hc => ?_) (fun hc => ?_) <;> (try simp only [Bool.not_eq_true', Bool.not_eq_false'] at hc)))
    first | exact end_quiet0 rfl rfl | exact end_quiet hB rfl rfl (by simp)
  | false =>
    obtain ⟨hf, hr⟩ := TableR.opn_fit ht hb
    have hc3 : ∀ z, z ∈ row.map ValR.av → z.cells.length = 3 := by
      intro z hz
      obtain ⟨v, _, rfl⟩ := List.mem_map.1 hz
      rfl
    have u : Go.Proofs.Try.prog.underlying 4 = some .bool := un_4
    generalize hk : keyV t rule row = kv
    obtain ⟨l, whole, e⟩ := kv
    have hll : l.length ≤ 10000000 := by
      have := congrArg (fun x : List ValR × Bool × Int => x.1.length) hk
      simp only at this
      rw [← this]
      unfold keyV
      split
      · split
        · simp
        · rename_i r hr0
          split
          · split
            · simp only [List.length_map]; exact (hf.2.2.2.2.2.1 r (List.mem_of_getElem? hr0)).2
            · simp
          · simp
      · simp
    have key1 : ∀ H, NewF Go.Proofs.Try.prog 25 [TableR.av t, .str rule, .fz (row.map ValR.av)] H (.tuple [.sl H.length l.length 0 l.length, .bool whole, .int .i64 e]) [.arr l.length 24 3 (l.map ValR.av)] := fun H => by
      have h := rowsKey_n t rule row hf H
      rw [hk] at h
      exact h
    have key2 : ∀ H, QuietF Go.Proofs.Try.prog 26 [TableR.av t, .str rule, .fz (row.map ValR.av)] H (.tuple [.fz (l.map ValR.av), .bool whole, .int .i64 e]) := fun H => by
      have h := refKey_q t rule row hf H
      rw [hk] at h
      exact h
    refine awp_seq_k (fun K hK => ?_)
    repeat (first
      | ((with_reducible first | refine isWL ?_ | refine isGW ?_ | refine isWQ ?_ | refine isGQ ?_); simp only [go_sem, Nat.reduceAdd, Nat.reduceMul, Nat.reduceLeDiff, Nat.reduceLT, Nat.reduceEqDiff, Int.reduceToNat, Int.reduceLE, Int.reduceLT, List.forall_mem_cons, List.not_mem_nil, false_implies, implies_true])
      | refine awp_region_w (by first | (simp; done) | assumption | (simp; omega)) (fun Q hQ => ?_)
      | refine awp_region_q mixed (by kernel_rfl) (by kernel_rfl) rfl (by first | (simp; done) | assumption | (simp; omega)) (fun Q hQ => ?_)
      | refine Both.mk ?_ ?_
      | (refine hQ _ _ ?_; clear hQ Q)
      | (refine hQ _ ?_; clear hQ Q)
      | refine awp_cond_true rfl ?_
      | refine awp_cond_false rfl ?_
      | refine awp_skip ?_
      | (refine awp_exit ?_; simp only [go_sem, Nat.reduceEqDiff])
      | (refine awp_ret ?_; try simp only [inBlock_ret, andThen_ret])
      | ((first | refine hK _ ?_ | (clear hK K; refine hK _ ?_) | (clear hK K; clear hK K; refine hK _ ?_) | (clear hK K; clear hK K; clear hK K; refine hK _ ?_) | (clear hK K; clear hK K; clear hK K; clear hK K; refine hK _ ?_) | (clear hK K; clear hK K; clear hK K; clear hK K; clear hK K; refine hK _ ?_) | (clear hK K; clear hK K; clear hK K; clear hK K; clear hK K; clear hK K; refine hK _ ?_)); clear hK; clear K)
      | refine And.intro (by first | assumption | omega | trivial | rfl | (simp; done)) ?_)
    refine awp_seq_at [(6, .junk), (16, .junk), (17, .junk), (18, .junk)] (H ++ [.var t.cells]) (fun K hK => ?_) ?_
    · repeat' (first
        | ((with_reducible first | refine isWL ?_ | refine isGW ?_ | refine isWQ ?_ | refine isGQ ?_); (first | simp only [go_sem, Nat.reduceAdd, Nat.reduceMul, Nat.reduceLeDiff, Nat.reduceLT, Nat.reduceEqDiff, Int.reduceToNat, Int.reduceLE, Int.reduceLT, List.forall_mem_cons, List.not_mem_nil, false_implies, implies_true, hb, hc] | simp only [go_sem, Nat.reduceAdd, Nat.reduceMul, Nat.reduceLeDiff, Nat.reduceLT, Nat.reduceEqDiff, Int.reduceToNat, Int.reduceLE, Int.reduceLT, List.forall_mem_cons, List.not_mem_nil, false_implies, implies_true, hb]))
        | refine awp_seq_k (fun K hK => ?_)
        | refine awp_block ?_
        | refine awp_region_w (by first | (simp; done) | assumption | (simp; omega)) (fun Q hQ => ?_)
        | refine awp_region_q mixed (by kernel_rfl) (by kernel_rfl) rfl (by first | (simp; done) | assumption | (simp; omega)) (fun Q hQ => ?_)
        | refine callW_quiet (TableR.opn_large ht hrow.2 _) ?_
        | refine callQ_quiet (TableR.opn_large ht hrow.2 _) ?_
        | refine Both.mk ?_ ?_
        | (refine hQ _ _ ?_; clear hQ Q)
        | (refine hQ _ ?_; clear hQ Q)
        | refine awp_cond_true rfl ?_
        | refine awp_cond_false rfl ?_
        | refine awp_skip ?_
        | (refine awp_exit ?_; simp only [go_sem, Nat.reduceEqDiff])
        | (refine awp_ret ?_; try simp only [inBlock_ret, andThen_ret])
        | ((first | refine hK _ ?_ | (clear hK K; refine hK _ ?_) | (clear hK K; clear hK K; refine hK _ ?_) | (clear hK K; clear hK K; clear hK K; refine hK _ ?_) | (clear hK K; clear hK K; clear hK K; clear hK K; refine hK _ ?_) | (clear hK K; clear hK K; clear hK K; clear hK K; clear hK K; refine hK _ ?_) | (clear hK K; clear hK K; clear hK K; clear hK K; clear hK K; clear hK K; refine hK _ ?_)); clear hK; clear K)
        | refine And.intro (by first | assumption | omega | trivial | rfl | (simp; done)) ?_
        | (refine awp_cond _ rfl (fun hc => ?_) (fun hc => ?_) <;> (try simp only [Bool.not_eq_true', Bool.not_eq_false'] at hc) <;> (try simp only [hc]))
        | (refine gdW_split (fun hc => ?_) (fun hc => ?_) <;> (try simp only [Bool.not_eq_true', Bool.not_eq_false'] at hc))
        | (refine gdQ_split (fun hc => ?_) (fun hc => ?_) <;> (try simp only [Bool.not_eq_true', Bool.not_eq_false'] at hc)))
      first
        | (refine weak_junk ?_; (try simp only [go_sem]); simp [LeT]; done)
        | (simp only [go_sem, List.map_append, List.map_cons, List.map_nil, List.length_append, List.length_cons, List.length_nil, List.length_map, Nat.zero_add, List.append_assoc, List.cons_append, List.nil_append]; refine weak_junk ?_; simp [LeT]; done)
        | ((try simp only [go_sem, List.map_append, List.map_cons, List.map_nil, List.length_append, List.length_cons, List.length_nil, List.length_map, Nat.zero_add, List.append_assoc, List.cons_append, List.nil_append]); refine weak_cut _ (by first | rfl | (simp only [List.append_assoc, List.cons_append, List.nil_append]; rfl)) (by simp) (by simp [LeT]) (by simp) (by first | exact hB | (refine hB_app hB ?_; simp; done) | (refine hB_app hB ?_; simp [or_imp, forall_and]; done) | (refine hB_app hB ?_; simp; refine forall_set ?_ ?_ <;> simp; done)); done)
    refine awp_seq_k (fun K hK => ?_)
    repeat (first
      | ((with_reducible first | refine isWL ?_ | refine isGW ?_ | refine isWQ ?_ | refine isGQ ?_); simp only [go_sem, Nat.reduceAdd, Nat.reduceMul, Nat.reduceLeDiff, Nat.reduceLT, Nat.reduceEqDiff, Int.reduceToNat, Int.reduceLE, Int.reduceLT, List.forall_mem_cons, List.not_mem_nil, false_implies, implies_true])
      | refine awp_region_w (by first | (simp; done) | assumption | (simp; omega)) (fun Q hQ => ?_)
      | refine awp_region_q mixed (by kernel_rfl) (by kernel_rfl) rfl (by first | (simp; done) | assumption | (simp; omega)) (fun Q hQ => ?_)
      | refine Both.mk ?_ ?_
      | (refine hQ _ _ ?_; clear hQ Q)
      | (refine hQ _ ?_; clear hQ Q)
      | refine awp_cond_true rfl ?_
      | refine awp_cond_false rfl ?_
      | refine awp_skip ?_
      | (refine awp_exit ?_; simp only [go_sem, Nat.reduceEqDiff])
      | (refine awp_ret ?_; try simp only [inBlock_ret, andThen_ret])
      | ((first | refine hK _ ?_ | (clear hK K; refine hK _ ?_) | (clear hK K; clear hK K; refine hK _ ?_) | (clear hK K; clear hK K; clear hK K; refine hK _ ?_) | (clear hK K; clear hK K; clear hK K; clear hK K; refine hK _ ?_) | (clear hK K; clear hK K; clear hK K; clear hK K; clear hK K; refine hK _ ?_) | (clear hK K; clear hK K; clear hK K; clear hK K; clear hK K; clear hK K; refine hK _ ?_)); clear hK; clear K)
      | refine And.intro (by first | assumption | omega | trivial | rfl | (simp; done)) ?_)
    refine awp_seq_at [(7, .fz (row.map ValR.av)), (19, .junk), (20, .junk), (21, .junk)] (H ++ [.var t.cells]) (fun K hK => ?_) ?_
    · repeat (first
        | ((with_reducible first | refine isWL ?_ | refine isGW ?_ | refine isWQ ?_ | refine isGQ ?_); simp only [go_sem, Nat.reduceAdd, Nat.reduceMul, Nat.reduceLeDiff, Nat.reduceLT, Nat.reduceEqDiff, Int.reduceToNat, Int.reduceLE, Int.reduceLT, List.forall_mem_cons, List.not_mem_nil, false_implies, implies_true, List.length_map])
        | refine awp_seq_k (fun K hK => ?_)
        | refine awp_block ?_
        | refine awp_region_w (by first | (simp; done) | assumption | (simp; omega)) (fun Q hQ => ?_)
        | refine awp_region_q mixed (by kernel_rfl) (by kernel_rfl) rfl (by first | (simp; done) | assumption | (simp; omega)) (fun Q hQ => ?_)
        | refine Both.mk ?_ ?_
        | (refine hQ _ _ ?_; clear hQ Q)
        | (refine hQ _ ?_; clear hQ Q)
        | refine awp_cond_true rfl ?_
        | refine awp_cond_false rfl ?_
        | refine awp_skip ?_
        | (refine awp_exit ?_; simp only [go_sem, Nat.reduceEqDiff])
        | (refine awp_ret ?_; try simp only [inBlock_ret, andThen_ret])
        | ((first | refine hK _ ?_ | (clear hK K; refine hK _ ?_) | (clear hK K; clear hK K; refine hK _ ?_) | (clear hK K; clear hK K; clear hK K; refine hK _ ?_) | (clear hK K; clear hK K; clear hK K; clear hK K; refine hK _ ?_) | (clear hK K; clear hK K; clear hK K; clear hK K; clear hK K; refine hK _ ?_) | (clear hK K; clear hK K; clear hK K; clear hK K; clear hK K; clear hK K; refine hK _ ?_)); clear hK; clear K)
        | refine And.intro (by first | assumption | omega | trivial | rfl | (simp; done) | (exact ⟨hc3, by omega⟩)) ?_)
      simp only [go_sem]
      refine weak_dfz (L := [_]) (by simp only [List.append_assoc, List.cons_append, List.nil_append]; rfl) (by simp) (hB_app hB (by simp)) ?_
      repeat (first | exact trivial | refine ⟨.same _ (by simp), ?_⟩ | refine ⟨.junk _, ?_⟩ | refine ⟨Dfz.slE (by simp only [go_sem]; rfl) (by simp) hc3 (by simp) (DfzE.same (by simp)), ?_⟩)
    refine awp_seq_k (fun K hK => ?_)
    repeat (first
      | ((with_reducible first | refine isWL ?_ | refine isGW ?_ | refine isWQ ?_ | refine isGQ ?_); simp only [go_sem, Nat.reduceAdd, Nat.reduceMul, Nat.reduceLeDiff, Nat.reduceLT, Nat.reduceEqDiff, Int.reduceToNat, Int.reduceLE, Int.reduceLT, List.forall_mem_cons, List.not_mem_nil, false_implies, implies_true])
      | refine awp_region_w (by first | (simp; done) | assumption | (simp; omega)) (fun Q hQ => ?_)
      | refine awp_region_q mixed (by kernel_rfl) (by kernel_rfl) rfl (by first | (simp; done) | assumption | (simp; omega)) (fun Q hQ => ?_)
      | refine callW_new (key1 _) ?_
      | refine Both.mk ?_ ?_
      | (refine hQ _ _ ?_; clear hQ Q)
      | (refine hQ _ ?_; clear hQ Q)
      | refine awp_cond_true rfl ?_
      | refine awp_cond_false rfl ?_
      | refine awp_skip ?_
      | (refine awp_exit ?_; simp only [go_sem, Nat.reduceEqDiff])
      | (refine awp_ret ?_; try simp only [inBlock_ret, andThen_ret])
      | ((first | refine hK _ ?_ | (clear hK K; refine hK _ ?_) | (clear hK K; clear hK K; refine hK _ ?_) | (clear hK K; clear hK K; clear hK K; refine hK _ ?_) | (clear hK K; clear hK K; clear hK K; clear hK K; refine hK _ ?_) | (clear hK K; clear hK K; clear hK K; clear hK K; clear hK K; refine hK _ ?_) | (clear hK K; clear hK K; clear hK K; clear hK K; clear hK K; clear hK K; refine hK _ ?_)); clear hK; clear K)
      | refine And.intro (by first | assumption | omega | trivial | rfl | (simp; done)) ?_)
    refine awp_seq_k (fun K hK => ?_)
    repeat (first
      | ((with_reducible first | refine isWL ?_ | refine isGW ?_ | refine isWQ ?_ | refine isGQ ?_); simp only [go_sem, Nat.reduceAdd, Nat.reduceMul, Nat.reduceLeDiff, Nat.reduceLT, Nat.reduceEqDiff, Int.reduceToNat, Int.reduceLE, Int.reduceLT, List.forall_mem_cons, List.not_mem_nil, false_implies, implies_true])
      | refine awp_region_w (by first | (simp; done) | assumption | (simp; omega)) (fun Q hQ => ?_)
      | refine awp_region_q mixed (by kernel_rfl) (by kernel_rfl) rfl (by first | (simp; done) | assumption | (simp; omega)) (fun Q hQ => ?_)
      | refine callW_quiet (key2 _) ?_
      | refine callQ_quiet (key2 _) ?_
      | refine Both.mk ?_ ?_
      | (refine hQ _ _ ?_; clear hQ Q)
      | (refine hQ _ ?_; clear hQ Q)
      | refine awp_cond_true rfl ?_
      | refine awp_cond_false rfl ?_
      | refine awp_skip ?_
      | (refine awp_exit ?_; simp only [go_sem, Nat.reduceEqDiff])
      | (refine awp_ret ?_; try simp only [inBlock_ret, andThen_ret])
      | ((first | refine hK _ ?_ | (clear hK K; refine hK _ ?_) | (clear hK K; clear hK K; refine hK _ ?_) | (clear hK K; clear hK K; clear hK K; refine hK _ ?_) | (clear hK K; clear hK K; clear hK K; clear hK K; refine hK _ ?_) | (clear hK K; clear hK K; clear hK K; clear hK K; clear hK K; refine hK _ ?_) | (clear hK K; clear hK K; clear hK K; clear hK K; clear hK K; clear hK K; refine hK _ ?_)); clear hK; clear K)
      | refine And.intro (by first | assumption | omega | trivial | rfl | (simp; done)) ?_)
    refine awp_seq_k (fun K hK => ?_)
    repeat (first
      | ((with_reducible first | refine isWL ?_ | refine isGW ?_ | refine isWQ ?_ | refine isGQ ?_); simp only [go_sem, Nat.reduceAdd, Nat.reduceMul, Nat.reduceLeDiff, Nat.reduceLT, Nat.reduceEqDiff, Int.reduceToNat, Int.reduceLE, Int.reduceLT, List.forall_mem_cons, List.not_mem_nil, false_implies, implies_true, eqL_refl])
      | refine awp_region_w (by first | (simp; done) | assumption | (simp; omega)) (fun Q hQ => ?_)
      | refine awp_region_q mixed (by kernel_rfl) (by kernel_rfl) rfl (by first | (simp; done) | assumption | (simp; omega)) (fun Q hQ => ?_)
      | refine callW_quiet (QuietF.thaw (fun H' => refSame_q l l (by omega) H') ⟨Dfz.slE (by simp only [go_sem]; rfl) (Nat.zero_le _) (by simp [ValR.av, AV.cells]) (by simp) (DfzE.same (by simp)), .same _ (by simp), trivial⟩ (by simp)) ?_
      | refine callQ_quiet (QuietF.thaw (fun H' => refSame_q l l (by omega) H') ⟨Dfz.slE (by simp only [go_sem]; rfl) (Nat.zero_le _) (by simp [ValR.av, AV.cells]) (by simp) (DfzE.same (by simp)), .same _ (by simp), trivial⟩ (by simp)) ?_
      | refine Both.mk ?_ ?_
      | (refine hQ _ _ ?_; clear hQ Q)
      | (refine hQ _ ?_; clear hQ Q)
      | refine awp_cond_true rfl ?_
      | refine awp_cond_false rfl ?_
      | refine awp_skip ?_
      | (refine awp_exit ?_; simp only [go_sem, Nat.reduceEqDiff])
      | (refine awp_ret ?_; try simp only [inBlock_ret, andThen_ret])
      | ((first | refine hK _ ?_ | (clear hK K; refine hK _ ?_) | (clear hK K; clear hK K; refine hK _ ?_) | (clear hK K; clear hK K; clear hK K; refine hK _ ?_) | (clear hK K; clear hK K; clear hK K; clear hK K; refine hK _ ?_) | (clear hK K; clear hK K; clear hK K; clear hK K; clear hK K; refine hK _ ?_) | (clear hK K; clear hK K; clear hK K; clear hK K; clear hK K; clear hK K; refine hK _ ?_)); clear hK; clear K)
      | refine And.intro (by first | assumption | omega | trivial | rfl | (simp; done)) ?_)
    repeat (first
      | ((with_reducible first | refine isWL ?_ | refine isGW ?_ | refine isWQ ?_ | refine isGQ ?_); simp only [go_sem, Nat.reduceAdd, Nat.reduceMul, Nat.reduceLeDiff, Nat.reduceLT, Nat.reduceEqDiff, Int.reduceToNat, Int.reduceLE, Int.reduceLT, List.forall_mem_cons, List.not_mem_nil, false_implies, implies_true])
      | refine awp_seq_k (fun K hK => ?_)
      | refine awp_block ?_
      | refine awp_region_w (by first | (simp; done) | assumption | (simp; omega)) (fun Q hQ => ?_)
      | refine awp_region_q mixed (by kernel_rfl) (by kernel_rfl) rfl (by first | (simp; done) | assumption | (simp; omega)) (fun Q hQ => ?_)
      | refine Both.mk ?_ ?_
      | (refine hQ _ _ ?_; clear hQ Q)
      | (refine hQ _ ?_; clear hQ Q)
      | refine awp_cond_true rfl ?_
      | refine awp_cond_false rfl ?_
      | refine awp_skip ?_
      | (refine awp_exit ?_; simp only [go_sem, Nat.reduceEqDiff])
      | (refine awp_ret ?_; try simp only [inBlock_ret, andThen_ret])
      | ((first | refine hK _ ?_ | (clear hK K; refine hK _ ?_) | (clear hK K; clear hK K; refine hK _ ?_) | (clear hK K; clear hK K; clear hK K; refine hK _ ?_) | (clear hK K; clear hK K; clear hK K; clear hK K; refine hK _ ?_) | (clear hK K; clear hK K; clear hK K; clear hK K; clear hK K; refine hK _ ?_) | (clear hK K; clear hK K; clear hK K; clear hK K; clear hK K; clear hK K; refine hK _ ?_)); clear hK; clear K)
      | refine And.intro (by first | assumption | omega | trivial | rfl | (simp; done)) ?_)
    refine awp_loop_at (fun T n S => ∃ (i : Nat) (els : List ValR), (i ≤ (l).length ∧ els.length = l.length) ∧ n = (l).length - i ∧ S = ⟨setT T [(15, .int .i64 (i : Int)), (41, .junk), (42, .junk), (43, .junk), (44, .junk), (45, .junk), (46, .junk), (47, .junk), (48, .junk), (49, .junk), (50, .junk)], H ++ [.var t.cells, .arr l.length 24 3 (els.map ValR.av)]⟩) ?_ ?_
    · refine ⟨_, _, weak_junk ?_, 0, l, ⟨Nat.zero_le _, by first | rfl | assumption | (simp; done) | trivial⟩, rfl, rfl⟩
      simp only [go_sem]; simp [LeT]
    · rintro n S ⟨i, els, ⟨hi, hinv⟩, rfl, rfl⟩
      by_cases hlt : i < (l).length
      · have hw := wrap_succ hlt (by omega)
        have hd : decide (i < (l).length) = true := by simpa using hlt
        obtain ⟨a, ha⟩ : ∃ a, (l)[i]? = some a := ⟨_, List.getElem?_eq_getElem hlt⟩
        have hmem := List.mem_of_getElem? ha
        try rw [drop_cons ha] at hinv
        have hlt2 : i < els.length := by omega
        obtain ⟨b, hb2⟩ : ∃ b, els[i]? = some b := ⟨_, List.getElem?_eq_getElem hlt2⟩
        have hl2 := look_map (g := ValR.av) hb2
        repeat' (first
          | ((with_reducible first | refine isWL ?_ | refine isGW ?_ | refine isWQ ?_ | refine isGQ ?_); (first | simp only [go_sem, Nat.reduceAdd, Nat.reduceMul, Nat.reduceLeDiff, Nat.reduceLT, Nat.reduceEqDiff, Int.reduceToNat, Int.reduceLE, Int.reduceLT, List.forall_mem_cons, List.not_mem_nil, false_implies, implies_true, hd, hw, hlt, hl2, hinv, List.length_map, hc] | simp only [go_sem, Nat.reduceAdd, Nat.reduceMul, Nat.reduceLeDiff, Nat.reduceLT, Nat.reduceEqDiff, Int.reduceToNat, Int.reduceLE, Int.reduceLT, List.forall_mem_cons, List.not_mem_nil, false_implies, implies_true, hd, hw, hlt, hl2, hinv, List.length_map]))
          | refine awp_seq_k (fun K hK => ?_)
          | refine awp_block ?_
          | refine awp_region_w (by first | (simp; done) | assumption | (simp; omega)) (fun Q hQ => ?_)
          | refine awp_region_q mixed (by kernel_rfl) (by kernel_rfl) rfl (by first | (simp; done) | assumption | (simp; omega)) (fun Q hQ => ?_)
          | refine Both.mk ?_ ?_
          | (refine hQ _ _ ?_; clear hQ Q)
          | (refine hQ _ ?_; clear hQ Q)
          | refine awp_cond_true rfl ?_
          | refine awp_cond_false rfl ?_
          | refine awp_skip ?_
          | (refine awp_exit ?_; simp only [go_sem, Nat.reduceEqDiff])
          | (refine awp_ret ?_; try simp only [inBlock_ret, andThen_ret])
          | ((first | refine hK _ ?_ | (clear hK K; refine hK _ ?_) | (clear hK K; clear hK K; refine hK _ ?_) | (clear hK K; clear hK K; clear hK K; refine hK _ ?_) | (clear hK K; clear hK K; clear hK K; clear hK K; refine hK _ ?_) | (clear hK K; clear hK K; clear hK K; clear hK K; clear hK K; refine hK _ ?_) | (clear hK K; clear hK K; clear hK K; clear hK K; clear hK K; clear hK K; refine hK _ ?_)); clear hK; clear K)
          | refine And.intro (by first | assumption | omega | trivial | rfl | (simp; done)) ?_
          | (refine awp_cond _ rfl (fun hc => ?_) (fun hc => ?_) <;> (try simp only [Bool.not_eq_true', Bool.not_eq_false'] at hc) <;> (try simp only [hc]))
          | (refine gdW_split (fun hc => ?_) (fun hc => ?_) <;> (try simp only [Bool.not_eq_true', Bool.not_eq_false'] at hc))
          | (refine gdQ_split (fun hc => ?_) (fun hc => ?_) <;> (try simp only [Bool.not_eq_true', Bool.not_eq_false'] at hc)))
        rw [andThen_normal]
        refine ⟨(l).length - (i + 1), by omega, _, ?_, i + 1, els.set i b.set77, ⟨by omega, by simp [hinv]⟩, rfl, rfl⟩
        first
          | (refine weak_junk ?_; (try simp only [go_sem]); simp [LeT]; done)
          | (simp only [go_sem, List.map_append, List.map_cons, List.map_nil, List.length_append, List.length_cons, List.length_nil, List.length_map, Nat.zero_add, List.append_assoc, List.cons_append, List.nil_append, List.map_set, ValR.set77]; refine weak_junk ?_; simp [LeT]; done)
          | ((try simp only [go_sem, List.map_append, List.map_cons, List.map_nil, List.length_append, List.length_cons, List.length_nil, List.length_map, Nat.zero_add, List.append_assoc, List.cons_append, List.nil_append, List.map_set, ValR.set77]); refine weak_cut _ (by first | rfl | (simp only [List.append_assoc, List.cons_append, List.nil_append]; rfl)) (by simp) (by simp [LeT]) (by simp) (by first | exact hB | (refine hB_app hB ?_; simp; done) | (refine hB_app hB ?_; simp [or_imp, forall_and]; done) | (refine hB_app hB ?_; simp; refine forall_set ?_ ?_ <;> simp; done)); done)
      · have hd : decide (i < (l).length) = false := by simpa using hlt
        have hnil : (l).drop i = [] := List.drop_eq_nil_of_le (by omega)
        try rw [hnil] at hinv
        repeat' (first
          | ((with_reducible first | refine isWL ?_ | refine isGW ?_ | refine isWQ ?_ | refine isGQ ?_); (first | simp only [go_sem, Nat.reduceAdd, Nat.reduceMul, Nat.reduceLeDiff, Nat.reduceLT, Nat.reduceEqDiff, Int.reduceToNat, Int.reduceLE, Int.reduceLT, List.forall_mem_cons, List.not_mem_nil, false_implies, implies_true, hd, eqL_refl, beq_self_eq_true, List.length_map, hc] | simp only [go_sem, Nat.reduceAdd, Nat.reduceMul, Nat.reduceLeDiff, Nat.reduceLT, Nat.reduceEqDiff, Int.reduceToNat, Int.reduceLE, Int.reduceLT, List.forall_mem_cons, List.not_mem_nil, false_implies, implies_true, hd, eqL_refl, beq_self_eq_true, List.length_map]))
          | refine awp_seq_k (fun K hK => ?_)
          | refine awp_block ?_
          | refine awp_region_w (by first | (simp; done) | assumption | (simp; omega)) (fun Q hQ => ?_)
          | refine awp_region_q mixed (by kernel_rfl) (by kernel_rfl) rfl (by first | (simp; done) | assumption | (simp; omega)) (fun Q hQ => ?_)
          | refine callW_quiet (lawKeys_q _) ?_
          | refine callQ_quiet (lawKeys_q _) ?_
          | refine callW_quiet (refSame_q row row (by omega) _) ?_
          | refine callQ_quiet (refSame_q row row (by omega) _) ?_
          | refine Both.mk ?_ ?_
          | (refine hQ _ _ ?_; clear hQ Q)
          | (refine hQ _ ?_; clear hQ Q)
          | refine awp_cond_true rfl ?_
          | refine awp_cond_false rfl ?_
          | refine awp_skip ?_
          | (refine awp_exit ?_; simp only [go_sem, Nat.reduceEqDiff])
          | (refine awp_ret ?_; try simp only [inBlock_ret, andThen_ret])
          | ((first | refine hK _ ?_ | (clear hK K; refine hK _ ?_) | (clear hK K; clear hK K; refine hK _ ?_) | (clear hK K; clear hK K; clear hK K; refine hK _ ?_) | (clear hK K; clear hK K; clear hK K; clear hK K; refine hK _ ?_) | (clear hK K; clear hK K; clear hK K; clear hK K; clear hK K; refine hK _ ?_) | (clear hK K; clear hK K; clear hK K; clear hK K; clear hK K; clear hK K; refine hK _ ?_)); clear hK; clear K)
          | refine And.intro (by first | assumption | omega | trivial | rfl | (simp; done)) ?_
          | (refine awp_cond _ rfl (fun hc => ?_) (fun hc => ?_) <;> (try simp only [Bool.not_eq_true', Bool.not_eq_false'] at hc) <;> (try simp only [hc]))
          | (refine gdW_split (fun hc => ?_) (fun hc => ?_) <;> (try simp only [Bool.not_eq_true', Bool.not_eq_false'] at hc))
          | (refine gdQ_split (fun hc => ?_) (fun hc => ?_) <;> (try simp only [Bool.not_eq_true', Bool.not_eq_false'] at hc)))
        first | exact end_quiet0 rfl rfl | exact end_quiet hB rfl rfl (by simp)

end Go.Proofs.Ytamoclnnakdiaaa.Abs
