/-
  A table of objects is right; objects are right.
  Conditions: none.
-/
import Derived.Test.YtamoclnnakdiaaaC14
namespace Go.Proofs.Ytamoclnnakdiaaa.Abs
open Go Go.RowKit
set_option linter.unusedVariables false
set_option maxRecDepth 100000
set_option maxHeartbeats 4000000
set_option linter.unusedSimpArgs false

def ruleOk (o : ObjsR) (l : List ColR) (r : RuleR) : Bool := fitsB l r && !((r.kind == 4) && !(keyE o l r == 0))

def rightB (o : ObjsR) (t : TableR) : Bool :=
  nameB t.name && nameB t.owner && colsB t.cols && !decide (8 < (t.rules.length : Int)) && !decide (idxOf (fun s => s.name == t.schema) o.schemas < 0) && t.rules.all (ruleOk o t.cols) && risesB (fun a b => Go.Lib.compareBytes a.name b.name) t.rules

theorem right_q (o : ObjsR) (t : TableR) (ho : o.fit) (ht : t.fit) (H : List AObj) : QuietF Go.Proofs.Try.prog 76 [.agg o.cells, TableR.av t] H (.bool (rightB o t)) := by
  refine ACallF.of hb_76 (acalls_body Try.func76 rfl ?_)
  intro hB hA
  rw [args0_76]
  have ho' := ho
  obtain ⟨o1, o2, o3, o4⟩ := ho'
  obtain ⟨t1, t2, t3, t4, t5, t6, t7⟩ := ht
  repeat' (first
    | ((with_reducible first | refine isWL ?_ | refine isGW ?_ | refine isWQ ?_ | refine isGQ ?_); (first | simp only [go_sem, Nat.reduceAdd, Nat.reduceMul, Nat.reduceLeDiff, Nat.reduceLT, Nat.reduceEqDiff, Int.reduceToNat, Int.reduceLE, Int.reduceLT, List.forall_mem_cons, List.not_mem_nil, false_implies, implies_true, List.length_map, hc] | simp only [go_sem, Nat.reduceAdd, Nat.reduceMul, Nat.reduceLeDiff, Nat.reduceLT, Nat.reduceEqDiff, Int.reduceToNat, Int.reduceLE, Int.reduceLT, List.forall_mem_cons, List.not_mem_nil, false_implies, implies_true, List.length_map]))
    | refine awp_seq_k (fun K hK => ?_)
    | refine awp_block ?_
    | refine awp_region_w (by first | (simp; done) | assumption | (simp; omega)) (fun Q hQ => ?_)
    | refine awp_region_q mixed (by kernel_rfl) (by kernel_rfl) rfl (by first | (simp; done) | assumption | (simp; omega)) (fun Q hQ => ?_)
    | refine callW_quiet (name_q t.name t2 _) ?_
    | refine callQ_quiet (name_q t.name t2 _) ?_
    | refine callW_quiet (name_q t.owner t3 _) ?_
    | refine callQ_quiet (name_q t.owner t3 _) ?_
    | refine callW_quiet (mayColumns_q t.cols t4 (by omega) _) ?_
    | refine callQ_quiet (mayColumns_q t.cols t4 (by omega) _) ?_
    | refine callW_quiet (byName_schema o.schemas t.schema (by omega) _) ?_
    | refine callQ_quiet (byName_schema o.schemas t.schema (by omega) _) ?_
    | refine Both.mk ?_ ?_
    | (refine hQ _ _ ?_; clear hQ Q)
    | (refine hQ _ ?_; clear hQ Q)
    | refine awp_cond_true rfl ?_
    | refine awp_cond_false rfl ?_
    | refine awp_skip ?_
    | (refine awp_exit ?_; simp only [go_sem, Nat.reduceEqDiff])
    | (refine awp_ret ?_; try simp only [inBlock_ret, andThen_ret])
    | ((first | refine hK _ ?_ | (clear hK K; refine hK _ ?_) | (clear hK K; clear hK K; refine hK _ ?_) | (clear hK K; clear hK K; clear hK K; refine hK _ ?_) | (clear hK K; clear hK K; clear hK K; clear hK K; refine hK _ ?_) | (clear hK K; clear hK K; clear hK K; clear hK K; clear hK K; refine hK _ ?_) | (clear hK K; clear hK K; clear hK K; clear hK K; clear hK K; clear hK K; refine hK _ ?_)); clear hK; clear K)
    | refine And.intro (by first | assumption | omega | trivial | rfl | (simp; done)) ?_
    | (refine awp_cond _ rfl (fun hc => ?_) (fun hc => ?_) <;> (try simp only [Bool.not_eq_true', Bool.not_eq_false'] at hc) <;> (try simp only [hc]))
    | (refine gdW_split (fun hc => ?_) (fun hc => ?_) <;> (try simp only [Bool.not_eq_true', Bool.not_eq_false'] at hc))
    | (refine gdQ_split (fun hc => ?_) (fun hc => ?_) <;> (try simp only [Bool.not_eq_true', Bool.not_eq_false'] at hc)))
  all_goals first
    | (refine end_quiet hB rfl ?_ (by simp)
       simp only [look_zero, look_succ, rightB, *, Bool.true_and, Bool.and_true, Bool.false_and, Bool.and_false, Bool.not_true, Bool.not_false]
       done)
    | skip
  have hval : rightB o t = (t.rules.all (ruleOk o t.cols) && risesB (fun a b => Go.Lib.compareBytes a.name b.name) t.rules) := by
    simp only [rightB, *, Bool.true_and, Bool.not_false]
  rw [hval]
  repeat (first
    | ((with_reducible first | refine isWL ?_ | refine isGW ?_ | refine isWQ ?_ | refine isGQ ?_); simp only [go_sem, Nat.reduceAdd, Nat.reduceMul, Nat.reduceLeDiff, Nat.reduceLT, Nat.reduceEqDiff, Int.reduceToNat, Int.reduceLE, Int.reduceLT, List.forall_mem_cons, List.not_mem_nil, false_implies, implies_true])
    | refine awp_seq_k (fun K hK => ?_)
    | refine awp_block ?_
    | refine awp_region_w (by first | (simp; done) | assumption | (simp; omega)) (fun Q hQ => ?_)
    | refine awp_region_q mixed (by kernel_rfl) (by kernel_rfl) rfl (by first | (simp; done) | assumption | (simp; omega)) (fun Q hQ => ?_)
    | refine Both.mk ?_ ?_
    | (refine hQ _ _ ?_; clear hQ Q)
    | (refine hQ _ ?_; clear hQ Q)
    | refine awp_cond_true rfl ?_
    | refine awp_cond_false rfl ?_
    | refine awp_skip ?_
    | (refine awp_exit ?_; simp only [go_sem, Nat.reduceEqDiff])
    | (refine awp_ret ?_; try simp only [inBlock_ret, andThen_ret])
    | ((first | refine hK _ ?_ | (clear hK K; refine hK _ ?_) | (clear hK K; clear hK K; refine hK _ ?_) | (clear hK K; clear hK K; clear hK K; refine hK _ ?_) | (clear hK K; clear hK K; clear hK K; clear hK K; refine hK _ ?_) | (clear hK K; clear hK K; clear hK K; clear hK K; clear hK K; refine hK _ ?_) | (clear hK K; clear hK K; clear hK K; clear hK K; clear hK K; clear hK K; refine hK _ ?_)); clear hK; clear K)
    | refine And.intro (by first | assumption | omega | trivial | rfl | (simp; done)) ?_)
  refine awp_loop_at (fun T n S => ∃ (i : Nat) , (i ≤ (t.rules).length ∧ ((t.rules.drop i).all (ruleOk o t.cols) && risesB (fun a b => Go.Lib.compareBytes a.name b.name) t.rules) = (t.rules.all (ruleOk o t.cols) && risesB (fun a b => Go.Lib.compareBytes a.name b.name) t.rules)) ∧ n = (t.rules).length - i ∧ S = ⟨setT T [(40, .int .i64 (i : Int)), (4, .junk), (6, .junk), (41, .junk), (42, .junk), (43, .junk), (44, .junk), (45, .junk), (46, .junk), (47, .junk), (48, .junk), (49, .junk), (50, .junk), (51, .junk), (52, .junk), (53, .junk), (54, .junk), (55, .junk), (56, .junk), (57, .junk), (58, .junk), (59, .junk), (60, .junk), (61, .junk), (62, .junk)], H ++ [.var o.cells, .var t.cells]⟩) ?_ ?_
  · refine ⟨_, _, weak_junk ?_, 0, ⟨Nat.zero_le _, by first | rfl | assumption | (simp; done) | trivial⟩, rfl, rfl⟩
    simp only [go_sem]; simp [LeT]
  · rintro n S ⟨i, ⟨hi, hinv⟩, rfl, rfl⟩
    by_cases hlt : i < (t.rules).length
    · have hw := wrap_succ hlt (by omega)
      have hd : decide (i < (t.rules).length) = true := by simpa using hlt
      obtain ⟨a, ha⟩ : ∃ a, (t.rules)[i]? = some a := ⟨_, List.getElem?_eq_getElem hlt⟩
      have hl := look_map (g := RuleR.av) ha
      have hmem := List.mem_of_getElem? ha
      try rw [drop_cons ha] at hinv
      have ha6 := t6 a hmem
      simp only [List.all_cons] at hinv
      repeat' (first
        | ((with_reducible first | refine isWL ?_ | refine isGW ?_ | refine isWQ ?_ | refine isGQ ?_); (first | simp only [go_sem, Nat.reduceAdd, Nat.reduceMul, Nat.reduceLeDiff, Nat.reduceLT, Nat.reduceEqDiff, Int.reduceToNat, Int.reduceLE, Int.reduceLT, List.forall_mem_cons, List.not_mem_nil, false_implies, implies_true, hd, hw, hl, hlt, List.length_map, hc] | simp only [go_sem, Nat.reduceAdd, Nat.reduceMul, Nat.reduceLeDiff, Nat.reduceLT, Nat.reduceEqDiff, Int.reduceToNat, Int.reduceLE, Int.reduceLT, List.forall_mem_cons, List.not_mem_nil, false_implies, implies_true, hd, hw, hl, hlt, List.length_map]))
        | refine awp_seq_k (fun K hK => ?_)
        | refine awp_block ?_
        | refine awp_region_w (by first | (simp; done) | assumption | (simp; omega)) (fun Q hQ => ?_)
        | refine awp_region_q mixed (by kernel_rfl) (by kernel_rfl) rfl (by first | (simp; done) | assumption | (simp; omega)) (fun Q hQ => ?_)
        | refine callW_quiet (fits_q t.cols a ha6.1 (by omega) (by have := ha6.2; omega) _) ?_
        | refine callQ_quiet (fits_q t.cols a ha6.1 (by omega) (by have := ha6.2; omega) _) ?_
        | refine callW_quiet (key_q o t.cols a ho (by omega) ha6 _) ?_
        | refine callQ_quiet (key_q o t.cols a ho (by omega) ha6 _) ?_
        | refine Both.mk ?_ ?_
        | (refine hQ _ _ ?_; clear hQ Q)
        | (refine hQ _ ?_; clear hQ Q)
        | refine awp_cond_true rfl ?_
        | refine awp_cond_false rfl ?_
        | refine awp_skip ?_
        | (refine awp_exit ?_; simp only [go_sem, Nat.reduceEqDiff])
        | (refine awp_ret ?_; try simp only [inBlock_ret, andThen_ret])
        | ((first | refine hK _ ?_ | (clear hK K; refine hK _ ?_) | (clear hK K; clear hK K; refine hK _ ?_) | (clear hK K; clear hK K; clear hK K; refine hK _ ?_) | (clear hK K; clear hK K; clear hK K; clear hK K; refine hK _ ?_) | (clear hK K; clear hK K; clear hK K; clear hK K; clear hK K; refine hK _ ?_) | (clear hK K; clear hK K; clear hK K; clear hK K; clear hK K; clear hK K; refine hK _ ?_)); clear hK; clear K)
        | refine And.intro (by first | assumption | omega | trivial | rfl | (simp; done)) ?_
        | (refine awp_cond _ rfl (fun hc => ?_) (fun hc => ?_) <;> (try simp only [Bool.not_eq_true', Bool.not_eq_false'] at hc) <;> (try simp only [hc]))
        | (refine gdW_split (fun hc => ?_) (fun hc => ?_) <;> (try simp only [Bool.not_eq_true', Bool.not_eq_false'] at hc))
        | (refine gdQ_split (fun hc => ?_) (fun hc => ?_) <;> (try simp only [Bool.not_eq_true', Bool.not_eq_false'] at hc)))
      all_goals try
        (rw [← hinv]
         refine end_quiet hB rfl ?_ (by simp)
         simp only [look_zero, look_succ, ruleOk, *, Bool.true_and, Bool.and_true, Bool.false_and, Bool.and_false, Bool.not_true, Bool.not_false]
         done)
      all_goals
        simp only [ruleOk, *, Bool.true_and, Bool.and_true, Bool.false_and, Bool.and_false, Bool.not_true, Bool.not_false] at hinv
        rw [andThen_normal]
        refine ⟨(t.rules).length - (i + 1), by omega, _, ?_, i + 1, ⟨by omega, hinv⟩, rfl, rfl⟩
        first
          | (refine weak_junk ?_; (try simp only [go_sem]); simp [LeT]; done)
          | (simp only [go_sem, List.map_append, List.map_cons, List.map_nil, List.length_append, List.length_cons, List.length_nil, List.length_map, Nat.zero_add, List.append_assoc, List.cons_append, List.nil_append]; refine weak_junk ?_; simp [LeT]; done)
          | ((try simp only [go_sem, List.map_append, List.map_cons, List.map_nil, List.length_append, List.length_cons, List.length_nil, List.length_map, Nat.zero_add, List.append_assoc, List.cons_append, List.nil_append]); refine weak_cut _ (by first | rfl | (simp only [List.append_assoc, List.cons_append, List.nil_append]; rfl)) (by simp) (by simp [LeT]) (by simp) (by first | exact hB | (refine hB_app hB ?_; simp; done) | (refine hB_app hB ?_; simp [or_imp, forall_and]; done) | (refine hB_app hB ?_; simp; refine forall_set ?_ ?_ <;> simp; done)); done)
    · have hd : decide (i < (t.rules).length) = false := by simpa using hlt
      have hnil : (t.rules).drop i = [] := List.drop_eq_nil_of_le (by omega)
      try rw [hnil] at hinv
      simp only [List.all_nil, Bool.true_and] at hinv
      repeat (first
        | ((with_reducible first | refine isWL ?_ | refine isGW ?_ | refine isWQ ?_ | refine isGQ ?_); simp only [go_sem, Nat.reduceAdd, Nat.reduceMul, Nat.reduceLeDiff, Nat.reduceLT, Nat.reduceEqDiff, Int.reduceToNat, Int.reduceLE, Int.reduceLT, List.forall_mem_cons, List.not_mem_nil, false_implies, implies_true, hd])
        | refine awp_seq_k (fun K hK => ?_)
        | refine awp_block ?_
        | refine awp_region_w (by first | (simp; done) | assumption | (simp; omega)) (fun Q hQ => ?_)
        | refine awp_region_q mixed (by kernel_rfl) (by kernel_rfl) rfl (by first | (simp; done) | assumption | (simp; omega)) (fun Q hQ => ?_)
        | refine callW_quiet (rises_rule t.rules (fun a b => Go.Lib.compareBytes a.name b.name) _ _ (by omega) (fun a b ha hb => ruleCmp_q a b _)) ?_
        | refine callQ_quiet (rises_rule t.rules (fun a b => Go.Lib.compareBytes a.name b.name) _ _ (by omega) (fun a b ha hb => ruleCmp_q a b _)) ?_
        | refine Both.mk ?_ ?_
        | (refine hQ _ _ ?_; clear hQ Q)
        | (refine hQ _ ?_; clear hQ Q)
        | refine awp_cond_true rfl ?_
        | refine awp_cond_false rfl ?_
        | refine awp_skip ?_
        | (refine awp_exit ?_; simp only [go_sem, Nat.reduceEqDiff])
        | (refine awp_ret ?_; try simp only [inBlock_ret, andThen_ret])
        | ((first | refine hK _ ?_ | (clear hK K; refine hK _ ?_) | (clear hK K; clear hK K; refine hK _ ?_) | (clear hK K; clear hK K; clear hK K; refine hK _ ?_) | (clear hK K; clear hK K; clear hK K; clear hK K; refine hK _ ?_) | (clear hK K; clear hK K; clear hK K; clear hK K; clear hK K; refine hK _ ?_) | (clear hK K; clear hK K; clear hK K; clear hK K; clear hK K; clear hK K; refine hK _ ?_)); clear hK; clear K)
        | refine And.intro (by first | assumption | omega | trivial | rfl | (simp; done)) ?_)
      rw [hval, ← hinv]
      exact end_quiet hB rfl rfl (by simp)

def schemaOk (o : ObjsR) (s : SchemaR) : Bool := nameB s.name && nameB s.owner && decide ((withinN o.tables s.name : Int) ≤ 8)

def check0 (o : ObjsR) : Bool := decide ((o.schemas.length : Int) ≤ 8) && decide ((o.tables.length : Int) ≤ 64) && risesB tableCmp o.tables
def check1 (o : ObjsR) : Bool := check0 o && risesB (fun a b => Go.Lib.compareBytes a.name b.name) o.schemas
def check2 (o : ObjsR) : Bool := check1 o && o.schemas.all (schemaOk o)
def checkB (o : ObjsR) : Bool := check2 o && o.tables.all (rightB o)
def checkE (o : ObjsR) : Int := if checkB o = true then 0 else 63

theorem check_q (o : ObjsR) (ho : o.fit) (H : List AObj) : QuietF Go.Proofs.Try.prog 35 [.agg o.cells] H (.int .i64 (checkE o)) := by
  refine ACallF.of hb_35 (acalls_body Try.func35 rfl ?_)
  intro hB hA
  rw [args0_35]
  have ho' := ho
  obtain ⟨o1, o2, o3, o4⟩ := ho'
  refine awp_seq_k (fun K hK => ?_)
  repeat (first
    | ((with_reducible first | refine isWL ?_ | refine isGW ?_ | refine isWQ ?_ | refine isGQ ?_); simp only [go_sem, Nat.reduceAdd, Nat.reduceMul, Nat.reduceLeDiff, Nat.reduceLT, Nat.reduceEqDiff, Int.reduceToNat, Int.reduceLE, Int.reduceLT, List.forall_mem_cons, List.not_mem_nil, false_implies, implies_true])
    | refine awp_region_w (by first | (simp; done) | assumption | (simp; omega)) (fun Q hQ => ?_)
    | refine awp_region_q mixed (by kernel_rfl) (by kernel_rfl) rfl (by first | (simp; done) | assumption | (simp; omega)) (fun Q hQ => ?_)
    | refine Both.mk ?_ ?_
    | (refine hQ _ _ ?_; clear hQ Q)
    | (refine hQ _ ?_; clear hQ Q)
    | refine awp_cond_true rfl ?_
    | refine awp_cond_false rfl ?_
    | refine awp_skip ?_
    | (refine awp_exit ?_; simp only [go_sem, Nat.reduceEqDiff])
    | (refine awp_ret ?_; try simp only [inBlock_ret, andThen_ret])
    | ((first | refine hK _ ?_ | (clear hK K; refine hK _ ?_) | (clear hK K; clear hK K; refine hK _ ?_) | (clear hK K; clear hK K; clear hK K; refine hK _ ?_) | (clear hK K; clear hK K; clear hK K; clear hK K; refine hK _ ?_) | (clear hK K; clear hK K; clear hK K; clear hK K; clear hK K; refine hK _ ?_) | (clear hK K; clear hK K; clear hK K; clear hK K; clear hK K; clear hK K; refine hK _ ?_)); clear hK; clear K)
    | refine And.intro (by first | assumption | omega | trivial | rfl | (simp; done)) ?_)
  refine awp_seq_at [(3, .bool (check0 o)), (7, .junk), (8, .junk), (9, .junk), (10, .junk), (11, .junk), (12, .junk), (13, .junk), (14, .junk), (15, .junk), (16, .junk), (17, .junk), (18, .junk), (19, .junk), (20, .junk), (21, .junk)] (H ++ [.var o.cells]) (fun K hK => ?_) ?_
  · repeat' (first
      | ((with_reducible first | refine isWL ?_ | refine isGW ?_ | refine isWQ ?_ | refine isGQ ?_); (first | simp only [go_sem, Nat.reduceAdd, Nat.reduceMul, Nat.reduceLeDiff, Nat.reduceLT, Nat.reduceEqDiff, Int.reduceToNat, Int.reduceLE, Int.reduceLT, List.forall_mem_cons, List.not_mem_nil, false_implies, implies_true, List.length_map, hc] | simp only [go_sem, Nat.reduceAdd, Nat.reduceMul, Nat.reduceLeDiff, Nat.reduceLT, Nat.reduceEqDiff, Int.reduceToNat, Int.reduceLE, Int.reduceLT, List.forall_mem_cons, List.not_mem_nil, false_implies, implies_true, List.length_map]))
      | refine awp_seq_k (fun K hK => ?_)
      | refine awp_block ?_
      | refine awp_region_w (by first | (simp; done) | assumption | (simp; omega)) (fun Q hQ => ?_)
      | refine awp_region_q mixed (by kernel_rfl) (by kernel_rfl) rfl (by first | (simp; done) | assumption | (simp; omega)) (fun Q hQ => ?_)
      | refine callW_quiet (rises_table o.tables tableCmp _ _ (by omega) (fun a b ha hb => order_q a b _)) ?_
      | refine callQ_quiet (rises_table o.tables tableCmp _ _ (by omega) (fun a b ha hb => order_q a b _)) ?_
      | refine Both.mk ?_ ?_
      | (refine hQ _ _ ?_; clear hQ Q)
      | (refine hQ _ ?_; clear hQ Q)
      | refine awp_cond_true rfl ?_
      | refine awp_cond_false rfl ?_
      | refine awp_skip ?_
      | (refine awp_exit ?_; simp only [go_sem, Nat.reduceEqDiff])
      | (refine awp_ret ?_; try simp only [inBlock_ret, andThen_ret])
      | ((first | refine hK _ ?_ | (clear hK K; refine hK _ ?_) | (clear hK K; clear hK K; refine hK _ ?_) | (clear hK K; clear hK K; clear hK K; refine hK _ ?_) | (clear hK K; clear hK K; clear hK K; clear hK K; refine hK _ ?_) | (clear hK K; clear hK K; clear hK K; clear hK K; clear hK K; refine hK _ ?_) | (clear hK K; clear hK K; clear hK K; clear hK K; clear hK K; clear hK K; refine hK _ ?_)); clear hK; clear K)
      | refine And.intro (by first | assumption | omega | trivial | rfl | (simp; done)) ?_
      | (refine awp_cond _ rfl (fun hc => ?_) (fun hc => ?_) <;> (try simp only [Bool.not_eq_true', Bool.not_eq_false'] at hc) <;> (try simp only [hc]))
      | (refine gdW_split (fun hc => ?_) (fun hc => ?_) <;> (try simp only [Bool.not_eq_true', Bool.not_eq_false'] at hc))
      | (refine gdQ_split (fun hc => ?_) (fun hc => ?_) <;> (try simp only [Bool.not_eq_true', Bool.not_eq_false'] at hc)))
    all_goals
      simp only [check0, *, Bool.true_and, Bool.and_true, Bool.false_and, Bool.and_false]
      first
        | (refine weak_junk ?_; (try simp only [go_sem]); simp [LeT]; done)
        | (simp only [go_sem, List.map_append, List.map_cons, List.map_nil, List.length_append, List.length_cons, List.length_nil, List.length_map, Nat.zero_add, List.append_assoc, List.cons_append, List.nil_append]; refine weak_junk ?_; simp [LeT]; done)
        | ((try simp only [go_sem, List.map_append, List.map_cons, List.map_nil, List.length_append, List.length_cons, List.length_nil, List.length_map, Nat.zero_add, List.append_assoc, List.cons_append, List.nil_append]); refine weak_cut _ (by first | rfl | (simp only [List.append_assoc, List.cons_append, List.nil_append]; rfl)) (by simp) (by simp [LeT]) (by simp) (by first | exact hB | (refine hB_app hB ?_; simp; done) | (refine hB_app hB ?_; simp [or_imp, forall_and]; done) | (refine hB_app hB ?_; simp; refine forall_set ?_ ?_ <;> simp; done)); done)
  refine awp_seq_at [(3, .bool (check1 o)), (22, .junk), (23, .junk), (24, .junk), (25, .junk), (26, .junk), (27, .junk)] (H ++ [.var o.cells]) (fun K hK => ?_) ?_
  · repeat' (first
      | ((with_reducible first | refine isWL ?_ | refine isGW ?_ | refine isWQ ?_ | refine isGQ ?_); (first | simp only [go_sem, Nat.reduceAdd, Nat.reduceMul, Nat.reduceLeDiff, Nat.reduceLT, Nat.reduceEqDiff, Int.reduceToNat, Int.reduceLE, Int.reduceLT, List.forall_mem_cons, List.not_mem_nil, false_implies, implies_true, List.length_map, hc] | simp only [go_sem, Nat.reduceAdd, Nat.reduceMul, Nat.reduceLeDiff, Nat.reduceLT, Nat.reduceEqDiff, Int.reduceToNat, Int.reduceLE, Int.reduceLT, List.forall_mem_cons, List.not_mem_nil, false_implies, implies_true, List.length_map]))
      | refine awp_seq_k (fun K hK => ?_)
      | refine awp_block ?_
      | refine awp_region_w (by first | (simp; done) | assumption | (simp; omega)) (fun Q hQ => ?_)
      | refine awp_region_q mixed (by kernel_rfl) (by kernel_rfl) rfl (by first | (simp; done) | assumption | (simp; omega)) (fun Q hQ => ?_)
      | refine callW_quiet (rises_schema o.schemas (fun a b => Go.Lib.compareBytes a.name b.name) _ _ (by omega) (fun a b ha hb => schemaCmp_q a b _)) ?_
      | refine callQ_quiet (rises_schema o.schemas (fun a b => Go.Lib.compareBytes a.name b.name) _ _ (by omega) (fun a b ha hb => schemaCmp_q a b _)) ?_
      | refine Both.mk ?_ ?_
      | (refine hQ _ _ ?_; clear hQ Q)
      | (refine hQ _ ?_; clear hQ Q)
      | refine awp_cond_true rfl ?_
      | refine awp_cond_false rfl ?_
      | refine awp_skip ?_
      | (refine awp_exit ?_; simp only [go_sem, Nat.reduceEqDiff])
      | (refine awp_ret ?_; try simp only [inBlock_ret, andThen_ret])
      | ((first | refine hK _ ?_ | (clear hK K; refine hK _ ?_) | (clear hK K; clear hK K; refine hK _ ?_) | (clear hK K; clear hK K; clear hK K; refine hK _ ?_) | (clear hK K; clear hK K; clear hK K; clear hK K; refine hK _ ?_) | (clear hK K; clear hK K; clear hK K; clear hK K; clear hK K; refine hK _ ?_) | (clear hK K; clear hK K; clear hK K; clear hK K; clear hK K; clear hK K; refine hK _ ?_)); clear hK; clear K)
      | refine And.intro (by first | assumption | omega | trivial | rfl | (simp; done)) ?_
      | (refine awp_cond _ rfl (fun hc => ?_) (fun hc => ?_) <;> (try simp only [Bool.not_eq_true', Bool.not_eq_false'] at hc) <;> (try simp only [hc]))
      | (refine gdW_split (fun hc => ?_) (fun hc => ?_) <;> (try simp only [Bool.not_eq_true', Bool.not_eq_false'] at hc))
      | (refine gdQ_split (fun hc => ?_) (fun hc => ?_) <;> (try simp only [Bool.not_eq_true', Bool.not_eq_false'] at hc)))
    all_goals
      simp only [check1, *, Bool.true_and, Bool.and_true, Bool.false_and, Bool.and_false]
      first
        | (refine weak_junk ?_; (try simp only [go_sem]); simp [LeT]; done)
        | (simp only [go_sem, List.map_append, List.map_cons, List.map_nil, List.length_append, List.length_cons, List.length_nil, List.length_map, Nat.zero_add, List.append_assoc, List.cons_append, List.nil_append]; refine weak_junk ?_; simp [LeT]; done)
        | ((try simp only [go_sem, List.map_append, List.map_cons, List.map_nil, List.length_append, List.length_cons, List.length_nil, List.length_map, Nat.zero_add, List.append_assoc, List.cons_append, List.nil_append]); refine weak_cut _ (by first | rfl | (simp only [List.append_assoc, List.cons_append, List.nil_append]; rfl)) (by simp) (by simp [LeT]) (by simp) (by first | exact hB | (refine hB_app hB ?_; simp; done) | (refine hB_app hB ?_; simp [or_imp, forall_and]; done) | (refine hB_app hB ?_; simp; refine forall_set ?_ ?_ <;> simp; done)); done)
  refine awp_seq_at [(3, .bool (check2 o)), (4, .junk), (5, .junk), (28, .junk), (29, .junk), (30, .junk), (31, .junk), (32, .junk), (33, .junk), (34, .junk), (35, .junk), (36, .junk), (37, .junk), (38, .junk), (39, .junk), (40, .junk), (41, .junk), (42, .junk), (43, .junk), (44, .junk), (45, .junk), (46, .junk), (47, .junk), (48, .junk), (49, .junk), (50, .junk), (51, .junk), (52, .junk), (53, .junk), (54, .junk), (55, .junk), (56, .junk), (57, .junk)] (H ++ [.var o.cells]) (fun K hK => ?_) ?_
  · repeat (first
      | ((with_reducible first | refine isWL ?_ | refine isGW ?_ | refine isWQ ?_ | refine isGQ ?_); simp only [go_sem, Nat.reduceAdd, Nat.reduceMul, Nat.reduceLeDiff, Nat.reduceLT, Nat.reduceEqDiff, Int.reduceToNat, Int.reduceLE, Int.reduceLT, List.forall_mem_cons, List.not_mem_nil, false_implies, implies_true])
      | refine awp_seq_k (fun K hK => ?_)
      | refine awp_block ?_
      | refine awp_region_w (by first | (simp; done) | assumption | (simp; omega)) (fun Q hQ => ?_)
      | refine awp_region_q mixed (by kernel_rfl) (by kernel_rfl) rfl (by first | (simp; done) | assumption | (simp; omega)) (fun Q hQ => ?_)
      | refine Both.mk ?_ ?_
      | (refine hQ _ _ ?_; clear hQ Q)
      | (refine hQ _ ?_; clear hQ Q)
      | refine awp_cond_true rfl ?_
      | refine awp_cond_false rfl ?_
      | refine awp_skip ?_
      | (refine awp_exit ?_; simp only [go_sem, Nat.reduceEqDiff])
      | (refine awp_ret ?_; try simp only [inBlock_ret, andThen_ret])
      | ((first | refine hK _ ?_ | (clear hK K; refine hK _ ?_) | (clear hK K; clear hK K; refine hK _ ?_) | (clear hK K; clear hK K; clear hK K; refine hK _ ?_) | (clear hK K; clear hK K; clear hK K; clear hK K; refine hK _ ?_) | (clear hK K; clear hK K; clear hK K; clear hK K; clear hK K; refine hK _ ?_) | (clear hK K; clear hK K; clear hK K; clear hK K; clear hK K; clear hK K; refine hK _ ?_)); clear hK; clear K)
      | refine And.intro (by first | assumption | omega | trivial | rfl | (simp; done)) ?_)
    refine awp_loop_at (fun T n S => ∃ (i : Nat) (ok : Bool), (i ≤ o.schemas.length ∧ (ok && (o.schemas.drop i).all (schemaOk o)) = check2 o) ∧ n = o.schemas.length - i ∧ S = ⟨setT T [(3, .bool ok), (4, .int .i64 (i : Int)), (5, .junk), (28, .junk), (29, .junk), (30, .junk), (31, .junk), (32, .junk), (33, .junk), (34, .junk), (35, .junk), (36, .junk), (37, .junk), (38, .junk), (39, .junk), (40, .junk), (41, .junk), (42, .junk), (43, .junk), (44, .junk), (45, .junk), (46, .junk), (47, .junk), (48, .junk), (49, .junk), (50, .junk), (51, .junk), (52, .junk), (53, .junk), (54, .junk), (55, .junk), (56, .junk), (57, .junk)], H ++ [.var o.cells]⟩) ?_ ?_
    · refine ⟨_, _, weak_junk ?_, 0, check1 o, (by exact ⟨Nat.zero_le _, rfl⟩), rfl, rfl⟩
      simp only [go_sem]; simp [LeT]
    · rintro n S ⟨i, ok, hinv, rfl, rfl⟩
      obtain ⟨hi, hinv⟩ := hinv
      cases ok with
      | false =>
        repeat (first
          | ((with_reducible first | refine isWL ?_ | refine isGW ?_ | refine isWQ ?_ | refine isGQ ?_); simp only [go_sem, Nat.reduceAdd, Nat.reduceMul, Nat.reduceLeDiff, Nat.reduceLT, Nat.reduceEqDiff, Int.reduceToNat, Int.reduceLE, Int.reduceLT, List.forall_mem_cons, List.not_mem_nil, false_implies, implies_true])
          | refine awp_seq_k (fun K hK => ?_)
          | refine awp_block ?_
          | refine awp_region_w (by first | (simp; done) | assumption | (simp; omega)) (fun Q hQ => ?_)
          | refine awp_region_q mixed (by kernel_rfl) (by kernel_rfl) rfl (by first | (simp; done) | assumption | (simp; omega)) (fun Q hQ => ?_)
          | refine Both.mk ?_ ?_
          | (refine hQ _ _ ?_; clear hQ Q)
          | (refine hQ _ ?_; clear hQ Q)
          | refine awp_cond_true rfl ?_
          | refine awp_cond_false rfl ?_
          | refine awp_skip ?_
          | (refine awp_exit ?_; simp only [go_sem, Nat.reduceEqDiff])
          | (refine awp_ret ?_; try simp only [inBlock_ret, andThen_ret])
          | ((first | refine hK _ ?_ | (clear hK K; refine hK _ ?_) | (clear hK K; clear hK K; refine hK _ ?_) | (clear hK K; clear hK K; clear hK K; refine hK _ ?_) | (clear hK K; clear hK K; clear hK K; clear hK K; refine hK _ ?_) | (clear hK K; clear hK K; clear hK K; clear hK K; clear hK K; refine hK _ ?_) | (clear hK K; clear hK K; clear hK K; clear hK K; clear hK K; clear hK K; refine hK _ ?_)); clear hK; clear K)
          | refine And.intro (by first | assumption | omega | trivial | rfl | (simp; done)) ?_)
        rw [← hinv]
        first
          | (refine weak_junk ?_; (try simp only [go_sem]); simp [LeT]; done)
          | (simp only [go_sem, List.map_append, List.map_cons, List.map_nil, List.length_append, List.length_cons, List.length_nil, List.length_map, Nat.zero_add, List.append_assoc, List.cons_append, List.nil_append]; refine weak_junk ?_; simp [LeT]; done)
          | ((try simp only [go_sem, List.map_append, List.map_cons, List.map_nil, List.length_append, List.length_cons, List.length_nil, List.length_map, Nat.zero_add, List.append_assoc, List.cons_append, List.nil_append]); refine weak_cut _ (by first | rfl | (simp only [List.append_assoc, List.cons_append, List.nil_append]; rfl)) (by simp) (by simp [LeT]) (by simp) (by first | exact hB | (refine hB_app hB ?_; simp; done) | (refine hB_app hB ?_; simp [or_imp, forall_and]; done) | (refine hB_app hB ?_; simp; refine forall_set ?_ ?_ <;> simp; done)); done)
      | true =>
        by_cases hlt : i < o.schemas.length
        · have hw := wrap_succ hlt (by omega)
          have hd : decide (i < o.schemas.length) = true := by simpa using hlt
          obtain ⟨a, ha⟩ : ∃ a, o.schemas[i]? = some a := ⟨_, List.getElem?_eq_getElem hlt⟩
          have hl := look_map (g := SchemaR.av) ha
          have hmem := List.mem_of_getElem? ha
          rw [drop_cons ha] at hinv
          simp only [List.all_cons, Bool.true_and] at hinv
          repeat' (first
            | ((with_reducible first | refine isWL ?_ | refine isGW ?_ | refine isWQ ?_ | refine isGQ ?_); (first | simp only [go_sem, Nat.reduceAdd, Nat.reduceMul, Nat.reduceLeDiff, Nat.reduceLT, Nat.reduceEqDiff, Int.reduceToNat, Int.reduceLE, Int.reduceLT, List.forall_mem_cons, List.not_mem_nil, false_implies, implies_true, hd, hw, hl, hlt, List.length_map, hc] | simp only [go_sem, Nat.reduceAdd, Nat.reduceMul, Nat.reduceLeDiff, Nat.reduceLT, Nat.reduceEqDiff, Int.reduceToNat, Int.reduceLE, Int.reduceLT, List.forall_mem_cons, List.not_mem_nil, false_implies, implies_true, hd, hw, hl, hlt, List.length_map]))
            | refine awp_seq_k (fun K hK => ?_)
            | refine awp_block ?_
            | refine awp_region_w (by first | (simp; done) | assumption | (simp; omega)) (fun Q hQ => ?_)
            | refine awp_region_q mixed (by kernel_rfl) (by kernel_rfl) rfl (by first | (simp; done) | assumption | (simp; omega)) (fun Q hQ => ?_)
            | refine callW_quiet (name_q a.name (o1 a hmem).1 _) ?_
            | refine callQ_quiet (name_q a.name (o1 a hmem).1 _) ?_
            | refine callW_quiet (name_q a.owner (o1 a hmem).2 _) ?_
            | refine callQ_quiet (name_q a.owner (o1 a hmem).2 _) ?_
            | refine callW_quiet (within_q o a.name (by omega) _) ?_
            | refine callQ_quiet (within_q o a.name (by omega) _) ?_
            | refine Both.mk ?_ ?_
            | (refine hQ _ _ ?_; clear hQ Q)
            | (refine hQ _ ?_; clear hQ Q)
            | refine awp_cond_true rfl ?_
            | refine awp_cond_false rfl ?_
            | refine awp_skip ?_
            | (refine awp_exit ?_; simp only [go_sem, Nat.reduceEqDiff])
            | (refine awp_ret ?_; try simp only [inBlock_ret, andThen_ret])
            | ((first | refine hK _ ?_ | (clear hK K; refine hK _ ?_) | (clear hK K; clear hK K; refine hK _ ?_) | (clear hK K; clear hK K; clear hK K; refine hK _ ?_) | (clear hK K; clear hK K; clear hK K; clear hK K; refine hK _ ?_) | (clear hK K; clear hK K; clear hK K; clear hK K; clear hK K; refine hK _ ?_) | (clear hK K; clear hK K; clear hK K; clear hK K; clear hK K; clear hK K; refine hK _ ?_)); clear hK; clear K)
            | refine And.intro (by first | assumption | omega | trivial | rfl | (simp; done)) ?_
            | (refine awp_cond _ rfl (fun hc => ?_) (fun hc => ?_) <;> (try simp only [Bool.not_eq_true', Bool.not_eq_false'] at hc) <;> (try simp only [hc]))
            | (refine gdW_split (fun hc => ?_) (fun hc => ?_) <;> (try simp only [Bool.not_eq_true', Bool.not_eq_false'] at hc))
            | (refine gdQ_split (fun hc => ?_) (fun hc => ?_) <;> (try simp only [Bool.not_eq_true', Bool.not_eq_false'] at hc)))
          all_goals
            simp only [schemaOk, *, Bool.true_and, Bool.and_true, Bool.false_and, Bool.and_false] at hinv
            first
            | (rw [andThen_normal]
               refine ⟨o.schemas.length - (i + 1), by omega, _, ?_, i + 1, false, ⟨by omega, hinv⟩, rfl, rfl⟩
               first
                 | (refine weak_junk ?_; (try simp only [go_sem]); simp [LeT]; done)
                 | (simp only [go_sem, List.map_append, List.map_cons, List.map_nil, List.length_append, List.length_cons, List.length_nil, List.length_map, Nat.zero_add, List.append_assoc, List.cons_append, List.nil_append]; refine weak_junk ?_; simp [LeT]; done)
                 | ((try simp only [go_sem, List.map_append, List.map_cons, List.map_nil, List.length_append, List.length_cons, List.length_nil, List.length_map, Nat.zero_add, List.append_assoc, List.cons_append, List.nil_append]); refine weak_cut _ (by first | rfl | (simp only [List.append_assoc, List.cons_append, List.nil_append]; rfl)) (by simp) (by simp [LeT]) (by simp) (by first | exact hB | (refine hB_app hB ?_; simp; done) | (refine hB_app hB ?_; simp [or_imp, forall_and]; done) | (refine hB_app hB ?_; simp; refine forall_set ?_ ?_ <;> simp; done)); done))
            | (rw [andThen_normal]
               refine ⟨o.schemas.length - (i + 1), by omega, _, ?_, i + 1, decide ((withinN o.tables a.name : Int) ≤ 8), ⟨by omega, hinv⟩, rfl, rfl⟩
               first
                 | (refine weak_junk ?_; (try simp only [go_sem]); simp [LeT]; done)
                 | (simp only [go_sem, List.map_append, List.map_cons, List.map_nil, List.length_append, List.length_cons, List.length_nil, List.length_map, Nat.zero_add, List.append_assoc, List.cons_append, List.nil_append]; refine weak_junk ?_; simp [LeT]; done)
                 | ((try simp only [go_sem, List.map_append, List.map_cons, List.map_nil, List.length_append, List.length_cons, List.length_nil, List.length_map, Nat.zero_add, List.append_assoc, List.cons_append, List.nil_append]); refine weak_cut _ (by first | rfl | (simp only [List.append_assoc, List.cons_append, List.nil_append]; rfl)) (by simp) (by simp [LeT]) (by simp) (by first | exact hB | (refine hB_app hB ?_; simp; done) | (refine hB_app hB ?_; simp [or_imp, forall_and]; done) | (refine hB_app hB ?_; simp; refine forall_set ?_ ?_ <;> simp; done)); done))
        · have hd : decide (i < o.schemas.length) = false := by simpa using hlt
          have hnil : o.schemas.drop i = [] := List.drop_eq_nil_of_le (by omega)
          rw [hnil] at hinv
          repeat (first
            | ((with_reducible first | refine isWL ?_ | refine isGW ?_ | refine isWQ ?_ | refine isGQ ?_); simp only [go_sem, Nat.reduceAdd, Nat.reduceMul, Nat.reduceLeDiff, Nat.reduceLT, Nat.reduceEqDiff, Int.reduceToNat, Int.reduceLE, Int.reduceLT, List.forall_mem_cons, List.not_mem_nil, false_implies, implies_true, hd, List.length_map])
            | refine awp_seq_k (fun K hK => ?_)
            | refine awp_block ?_
            | refine awp_region_w (by first | (simp; done) | assumption | (simp; omega)) (fun Q hQ => ?_)
            | refine awp_region_q mixed (by kernel_rfl) (by kernel_rfl) rfl (by first | (simp; done) | assumption | (simp; omega)) (fun Q hQ => ?_)
            | refine Both.mk ?_ ?_
            | (refine hQ _ _ ?_; clear hQ Q)
            | (refine hQ _ ?_; clear hQ Q)
            | refine awp_cond_true rfl ?_
            | refine awp_cond_false rfl ?_
            | refine awp_skip ?_
            | (refine awp_exit ?_; simp only [go_sem, Nat.reduceEqDiff])
            | (refine awp_ret ?_; try simp only [inBlock_ret, andThen_ret])
            | ((first | refine hK _ ?_ | (clear hK K; refine hK _ ?_) | (clear hK K; clear hK K; refine hK _ ?_) | (clear hK K; clear hK K; clear hK K; refine hK _ ?_) | (clear hK K; clear hK K; clear hK K; clear hK K; refine hK _ ?_) | (clear hK K; clear hK K; clear hK K; clear hK K; clear hK K; refine hK _ ?_) | (clear hK K; clear hK K; clear hK K; clear hK K; clear hK K; clear hK K; refine hK _ ?_)); clear hK; clear K)
            | refine And.intro (by first | assumption | omega | trivial | rfl | (simp; done)) ?_)
          rw [← hinv]
          first
            | (refine weak_junk ?_; (try simp only [go_sem]); simp [LeT]; done)
            | (simp only [go_sem, List.map_append, List.map_cons, List.map_nil, List.length_append, List.length_cons, List.length_nil, List.length_map, Nat.zero_add, List.append_assoc, List.cons_append, List.nil_append]; refine weak_junk ?_; simp [LeT]; done)
            | ((try simp only [go_sem, List.map_append, List.map_cons, List.map_nil, List.length_append, List.length_cons, List.length_nil, List.length_map, Nat.zero_add, List.append_assoc, List.cons_append, List.nil_append]); refine weak_cut _ (by first | rfl | (simp only [List.append_assoc, List.cons_append, List.nil_append]; rfl)) (by simp) (by simp [LeT]) (by simp) (by first | exact hB | (refine hB_app hB ?_; simp; done) | (refine hB_app hB ?_; simp [or_imp, forall_and]; done) | (refine hB_app hB ?_; simp; refine forall_set ?_ ?_ <;> simp; done)); done)
  refine awp_seq_at [(3, .bool (checkB o)), (6, .junk), (58, .junk), (59, .junk), (60, .junk), (61, .junk), (62, .junk), (63, .junk), (64, .junk), (65, .junk), (66, .junk), (67, .junk), (68, .junk), (69, .junk), (70, .junk), (71, .junk), (72, .junk), (73, .junk), (74, .junk)] (H ++ [.var o.cells]) (fun K hK => ?_) ?_
  · repeat (first
      | ((with_reducible first | refine isWL ?_ | refine isGW ?_ | refine isWQ ?_ | refine isGQ ?_); simp only [go_sem, Nat.reduceAdd, Nat.reduceMul, Nat.reduceLeDiff, Nat.reduceLT, Nat.reduceEqDiff, Int.reduceToNat, Int.reduceLE, Int.reduceLT, List.forall_mem_cons, List.not_mem_nil, false_implies, implies_true])
      | refine awp_seq_k (fun K hK => ?_)
      | refine awp_block ?_
      | refine awp_region_w (by first | (simp; done) | assumption | (simp; omega)) (fun Q hQ => ?_)
      | refine awp_region_q mixed (by kernel_rfl) (by kernel_rfl) rfl (by first | (simp; done) | assumption | (simp; omega)) (fun Q hQ => ?_)
      | refine Both.mk ?_ ?_
      | (refine hQ _ _ ?_; clear hQ Q)
      | (refine hQ _ ?_; clear hQ Q)
      | refine awp_cond_true rfl ?_
      | refine awp_cond_false rfl ?_
      | refine awp_skip ?_
      | (refine awp_exit ?_; simp only [go_sem, Nat.reduceEqDiff])
      | (refine awp_ret ?_; try simp only [inBlock_ret, andThen_ret])
      | ((first | refine hK _ ?_ | (clear hK K; refine hK _ ?_) | (clear hK K; clear hK K; refine hK _ ?_) | (clear hK K; clear hK K; clear hK K; refine hK _ ?_) | (clear hK K; clear hK K; clear hK K; clear hK K; refine hK _ ?_) | (clear hK K; clear hK K; clear hK K; clear hK K; clear hK K; refine hK _ ?_) | (clear hK K; clear hK K; clear hK K; clear hK K; clear hK K; clear hK K; refine hK _ ?_)); clear hK; clear K)
      | refine And.intro (by first | assumption | omega | trivial | rfl | (simp; done)) ?_)
    refine awp_loop_at (fun T n S => ∃ (i : Nat) (ok : Bool), (i ≤ o.tables.length ∧ (ok && (o.tables.drop i).all (rightB o)) = checkB o) ∧ n = o.tables.length - i ∧ S = ⟨setT T [(3, .bool ok), (6, .int .i64 (i : Int)), (58, .junk), (59, .junk), (60, .junk), (61, .junk), (62, .junk), (63, .junk), (64, .junk), (65, .junk), (66, .junk), (67, .junk), (68, .junk), (69, .junk), (70, .junk), (71, .junk), (72, .junk), (73, .junk), (74, .junk)], H ++ [.var o.cells]⟩) ?_ ?_
    · refine ⟨_, _, weak_junk ?_, 0, check2 o, (by exact ⟨Nat.zero_le _, rfl⟩), rfl, rfl⟩
      simp only [go_sem]; simp [LeT]
    · rintro n S ⟨i, ok, hinv, rfl, rfl⟩
      obtain ⟨hi, hinv⟩ := hinv
      cases ok with
      | false =>
        repeat (first
          | ((with_reducible first | refine isWL ?_ | refine isGW ?_ | refine isWQ ?_ | refine isGQ ?_); simp only [go_sem, Nat.reduceAdd, Nat.reduceMul, Nat.reduceLeDiff, Nat.reduceLT, Nat.reduceEqDiff, Int.reduceToNat, Int.reduceLE, Int.reduceLT, List.forall_mem_cons, List.not_mem_nil, false_implies, implies_true])
          | refine awp_seq_k (fun K hK => ?_)
          | refine awp_block ?_
          | refine awp_region_w (by first | (simp; done) | assumption | (simp; omega)) (fun Q hQ => ?_)
          | refine awp_region_q mixed (by kernel_rfl) (by kernel_rfl) rfl (by first | (simp; done) | assumption | (simp; omega)) (fun Q hQ => ?_)
          | refine Both.mk ?_ ?_
          | (refine hQ _ _ ?_; clear hQ Q)
          | (refine hQ _ ?_; clear hQ Q)
          | refine awp_cond_true rfl ?_
          | refine awp_cond_false rfl ?_
          | refine awp_skip ?_
          | (refine awp_exit ?_; simp only [go_sem, Nat.reduceEqDiff])
          | (refine awp_ret ?_; try simp only [inBlock_ret, andThen_ret])
          | ((first | refine hK _ ?_ | (clear hK K; refine hK _ ?_) | (clear hK K; clear hK K; refine hK _ ?_) | (clear hK K; clear hK K; clear hK K; refine hK _ ?_) | (clear hK K; clear hK K; clear hK K; clear hK K; refine hK _ ?_) | (clear hK K; clear hK K; clear hK K; clear hK K; clear hK K; refine hK _ ?_) | (clear hK K; clear hK K; clear hK K; clear hK K; clear hK K; clear hK K; refine hK _ ?_)); clear hK; clear K)
          | refine And.intro (by first | assumption | omega | trivial | rfl | (simp; done)) ?_)
        rw [← hinv]
        first
          | (refine weak_junk ?_; (try simp only [go_sem]); simp [LeT]; done)
          | (simp only [go_sem, List.map_append, List.map_cons, List.map_nil, List.length_append, List.length_cons, List.length_nil, List.length_map, Nat.zero_add, List.append_assoc, List.cons_append, List.nil_append]; refine weak_junk ?_; simp [LeT]; done)
          | ((try simp only [go_sem, List.map_append, List.map_cons, List.map_nil, List.length_append, List.length_cons, List.length_nil, List.length_map, Nat.zero_add, List.append_assoc, List.cons_append, List.nil_append]); refine weak_cut _ (by first | rfl | (simp only [List.append_assoc, List.cons_append, List.nil_append]; rfl)) (by simp) (by simp [LeT]) (by simp) (by first | exact hB | (refine hB_app hB ?_; simp; done) | (refine hB_app hB ?_; simp [or_imp, forall_and]; done) | (refine hB_app hB ?_; simp; refine forall_set ?_ ?_ <;> simp; done)); done)
      | true =>
        by_cases hlt : i < o.tables.length
        · have hw := wrap_succ hlt (by omega)
          have hd : decide (i < o.tables.length) = true := by simpa using hlt
          obtain ⟨a, ha⟩ : ∃ a, o.tables[i]? = some a := ⟨_, List.getElem?_eq_getElem hlt⟩
          have hl := look_map (g := TableR.av) ha
          have hmem := List.mem_of_getElem? ha
          rw [drop_cons ha] at hinv
          simp only [List.all_cons, Bool.true_and] at hinv
          repeat' (first
            | ((with_reducible first | refine isWL ?_ | refine isGW ?_ | refine isWQ ?_ | refine isGQ ?_); (first | simp only [go_sem, Nat.reduceAdd, Nat.reduceMul, Nat.reduceLeDiff, Nat.reduceLT, Nat.reduceEqDiff, Int.reduceToNat, Int.reduceLE, Int.reduceLT, List.forall_mem_cons, List.not_mem_nil, false_implies, implies_true, hd, hw, hl, hlt, List.length_map, hc] | simp only [go_sem, Nat.reduceAdd, Nat.reduceMul, Nat.reduceLeDiff, Nat.reduceLT, Nat.reduceEqDiff, Int.reduceToNat, Int.reduceLE, Int.reduceLT, List.forall_mem_cons, List.not_mem_nil, false_implies, implies_true, hd, hw, hl, hlt, List.length_map]))
            | refine awp_seq_k (fun K hK => ?_)
            | refine awp_block ?_
            | refine awp_region_w (by first | (simp; done) | assumption | (simp; omega)) (fun Q hQ => ?_)
            | refine awp_region_q mixed (by kernel_rfl) (by kernel_rfl) rfl (by first | (simp; done) | assumption | (simp; omega)) (fun Q hQ => ?_)
            | refine callW_quiet (right_q o a ho (o3 a hmem) _) ?_
            | refine callQ_quiet (right_q o a ho (o3 a hmem) _) ?_
            | refine Both.mk ?_ ?_
            | (refine hQ _ _ ?_; clear hQ Q)
            | (refine hQ _ ?_; clear hQ Q)
            | refine awp_cond_true rfl ?_
            | refine awp_cond_false rfl ?_
            | refine awp_skip ?_
            | (refine awp_exit ?_; simp only [go_sem, Nat.reduceEqDiff])
            | (refine awp_ret ?_; try simp only [inBlock_ret, andThen_ret])
            | ((first | refine hK _ ?_ | (clear hK K; refine hK _ ?_) | (clear hK K; clear hK K; refine hK _ ?_) | (clear hK K; clear hK K; clear hK K; refine hK _ ?_) | (clear hK K; clear hK K; clear hK K; clear hK K; refine hK _ ?_) | (clear hK K; clear hK K; clear hK K; clear hK K; clear hK K; refine hK _ ?_) | (clear hK K; clear hK K; clear hK K; clear hK K; clear hK K; clear hK K; refine hK _ ?_)); clear hK; clear K)
            | refine And.intro (by first | assumption | omega | trivial | rfl | (simp; done)) ?_
            | (refine awp_cond _ rfl (fun hc => ?_) (fun hc => ?_) <;> (try simp only [Bool.not_eq_true', Bool.not_eq_false'] at hc) <;> (try simp only [hc]))
            | (refine gdW_split (fun hc => ?_) (fun hc => ?_) <;> (try simp only [Bool.not_eq_true', Bool.not_eq_false'] at hc))
            | (refine gdQ_split (fun hc => ?_) (fun hc => ?_) <;> (try simp only [Bool.not_eq_true', Bool.not_eq_false'] at hc)))
          rw [andThen_normal]
          refine ⟨o.tables.length - (i + 1), by omega, _, ?_, i + 1, rightB o a, ⟨by omega, hinv⟩, rfl, rfl⟩
          first
            | (refine weak_junk ?_; (try simp only [go_sem]); simp [LeT]; done)
            | (simp only [go_sem, List.map_append, List.map_cons, List.map_nil, List.length_append, List.length_cons, List.length_nil, List.length_map, Nat.zero_add, List.append_assoc, List.cons_append, List.nil_append]; refine weak_junk ?_; simp [LeT]; done)
            | ((try simp only [go_sem, List.map_append, List.map_cons, List.map_nil, List.length_append, List.length_cons, List.length_nil, List.length_map, Nat.zero_add, List.append_assoc, List.cons_append, List.nil_append]); refine weak_cut _ (by first | rfl | (simp only [List.append_assoc, List.cons_append, List.nil_append]; rfl)) (by simp) (by simp [LeT]) (by simp) (by first | exact hB | (refine hB_app hB ?_; simp; done) | (refine hB_app hB ?_; simp [or_imp, forall_and]; done) | (refine hB_app hB ?_; simp; refine forall_set ?_ ?_ <;> simp; done)); done)
        · have hd : decide (i < o.tables.length) = false := by simpa using hlt
          have hnil : o.tables.drop i = [] := List.drop_eq_nil_of_le (by omega)
          rw [hnil] at hinv
          repeat (first
            | ((with_reducible first | refine isWL ?_ | refine isGW ?_ | refine isWQ ?_ | refine isGQ ?_); simp only [go_sem, Nat.reduceAdd, Nat.reduceMul, Nat.reduceLeDiff, Nat.reduceLT, Nat.reduceEqDiff, Int.reduceToNat, Int.reduceLE, Int.reduceLT, List.forall_mem_cons, List.not_mem_nil, false_implies, implies_true, hd, List.length_map])
            | refine awp_seq_k (fun K hK => ?_)
            | refine awp_block ?_
            | refine awp_region_w (by first | (simp; done) | assumption | (simp; omega)) (fun Q hQ => ?_)
            | refine awp_region_q mixed (by kernel_rfl) (by kernel_rfl) rfl (by first | (simp; done) | assumption | (simp; omega)) (fun Q hQ => ?_)
            | refine Both.mk ?_ ?_
            | (refine hQ _ _ ?_; clear hQ Q)
            | (refine hQ _ ?_; clear hQ Q)
            | refine awp_cond_true rfl ?_
            | refine awp_cond_false rfl ?_
            | refine awp_skip ?_
            | (refine awp_exit ?_; simp only [go_sem, Nat.reduceEqDiff])
            | (refine awp_ret ?_; try simp only [inBlock_ret, andThen_ret])
            | ((first | refine hK _ ?_ | (clear hK K; refine hK _ ?_) | (clear hK K; clear hK K; refine hK _ ?_) | (clear hK K; clear hK K; clear hK K; refine hK _ ?_) | (clear hK K; clear hK K; clear hK K; clear hK K; refine hK _ ?_) | (clear hK K; clear hK K; clear hK K; clear hK K; clear hK K; refine hK _ ?_) | (clear hK K; clear hK K; clear hK K; clear hK K; clear hK K; clear hK K; refine hK _ ?_)); clear hK; clear K)
            | refine And.intro (by first | assumption | omega | trivial | rfl | (simp; done)) ?_)
          rw [← hinv]
          first
            | (refine weak_junk ?_; (try simp only [go_sem]); simp [LeT]; done)
            | (simp only [go_sem, List.map_append, List.map_cons, List.map_nil, List.length_append, List.length_cons, List.length_nil, List.length_map, Nat.zero_add, List.append_assoc, List.cons_append, List.nil_append]; refine weak_junk ?_; simp [LeT]; done)
            | ((try simp only [go_sem, List.map_append, List.map_cons, List.map_nil, List.length_append, List.length_cons, List.length_nil, List.length_map, Nat.zero_add, List.append_assoc, List.cons_append, List.nil_append]); refine weak_cut _ (by first | rfl | (simp only [List.append_assoc, List.cons_append, List.nil_append]; rfl)) (by simp) (by simp [LeT]) (by simp) (by first | exact hB | (refine hB_app hB ?_; simp; done) | (refine hB_app hB ?_; simp [or_imp, forall_and]; done) | (refine hB_app hB ?_; simp; refine forall_set ?_ ?_ <;> simp; done)); done)
  repeat' (first
    | ((with_reducible first | refine isWL ?_ | refine isGW ?_ | refine isWQ ?_ | refine isGQ ?_); (first | simp only [go_sem, Nat.reduceAdd, Nat.reduceMul, Nat.reduceLeDiff, Nat.reduceLT, Nat.reduceEqDiff, Int.reduceToNat, Int.reduceLE, Int.reduceLT, List.forall_mem_cons, List.not_mem_nil, false_implies, implies_true, hc] | simp only [go_sem, Nat.reduceAdd, Nat.reduceMul, Nat.reduceLeDiff, Nat.reduceLT, Nat.reduceEqDiff, Int.reduceToNat, Int.reduceLE, Int.reduceLT, List.forall_mem_cons, List.not_mem_nil, false_implies, implies_true]))
    | refine awp_seq_k (fun K hK => ?_)
    | refine awp_block ?_
    | refine awp_region_w (by first | (simp; done) | assumption | (simp; omega)) (fun Q hQ => ?_)
    | refine awp_region_q mixed (by kernel_rfl) (by kernel_rfl) rfl (by first | (simp; done) | assumption | (simp; omega)) (fun Q hQ => ?_)
    | refine Both.mk ?_ ?_
    | (refine hQ _ _ ?_; clear hQ Q)
    | (refine hQ _ ?_; clear hQ Q)
    | refine awp_cond_true rfl ?_
    | refine awp_cond_false rfl ?_
    | refine awp_skip ?_
    | (refine awp_exit ?_; simp only [go_sem, Nat.reduceEqDiff])
    | (refine awp_ret ?_; try simp only [inBlock_ret, andThen_ret])
    | ((first | refine hK _ ?_ | (clear hK K; refine hK _ ?_) | (clear hK K; clear hK K; refine hK _ ?_) | (clear hK K; clear hK K; clear hK K; refine hK _ ?_) | (clear hK K; clear hK K; clear hK K; clear hK K; refine hK _ ?_) | (clear hK K; clear hK K; clear hK K; clear hK K; clear hK K; refine hK _ ?_) | (clear hK K; clear hK K; clear hK K; clear hK K; clear hK K; clear hK K; refine hK _ ?_)); clear hK; clear K)
    | refine And.intro (by first | assumption | omega | trivial | rfl | (simp; done)) ?_
    | (refine awp_cond _ rfl (fun hc => ?_) (fun hc => ?_) <;> (try simp only [Bool.not_eq_true', Bool.not_eq_false'] at hc) <;> (try simp only [hc]))
    | (refine gdW_split (fun hc => ?_) (fun hc => ?_) <;> (try simp only [Bool.not_eq_true', Bool.not_eq_false'] at hc))
    | (refine gdQ_split (fun hc => ?_) (fun hc => ?_) <;> (try simp only [Bool.not_eq_true', Bool.not_eq_false'] at hc)))
  all_goals
    first | refine end_quiet hB rfl ?_ (by simp) | refine end_quiet0 rfl ?_
    try clear hB hA
    try simp only [go_sem, checkE, Bool.false_eq_true, if_true, if_false, *, Bool.true_and, Bool.and_true, Bool.false_and, Bool.and_false, Bool.or_true, Bool.true_or, Bool.false_or, Bool.or_false]

end Go.Proofs.Ytamoclnnakdiaaa.Abs
