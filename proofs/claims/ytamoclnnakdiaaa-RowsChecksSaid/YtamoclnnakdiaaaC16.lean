/-
  A table in objects of its own; a table is right by itself; values.
  Conditions: none.
-/
import Derived.Test.YtamoclnnakdiaaaC15
import Derived.Test.YtamoclnnakdiaaaA19
namespace Go.Proofs.Ytamoclnnakdiaaa.Abs
open Go Go.RowKit
set_option linter.unusedVariables false
set_option maxRecDepth 100000
set_option maxHeartbeats 4000000
set_option linter.unusedSimpArgs false

theorem cloneRule_n (xs : List AV) (hn : xs.length ≤ 100000000000) (hc : ∀ x, x ∈ xs → x.cells.length = 8) (H : List AObj) :
    NewF Go.Proofs.Try.prog 77 [.fz xs] H (.sl H.length 0 0 xs.length) [.arr 0 50 8 xs] := by
  refine ACallF.of hb_77 (acalls_body Try.func77 rfl ?_)
  intro hB hA
  rw [args0_77]
  cases xs with
  | nil =>
    repeat' (first
      | ((with_reducible first | refine isWL ?_ | refine isGW ?_ | refine isWQ ?_ | refine isGQ ?_); (first | simp only [go_sem, Nat.reduceAdd, Nat.reduceMul, Nat.reduceLeDiff, Nat.reduceLT, Nat.reduceEqDiff, Int.reduceToNat, Int.reduceLE, Int.reduceLT, List.forall_mem_cons, List.not_mem_nil, false_implies, implies_true, hc] | simp only [go_sem, Nat.reduceAdd, Nat.reduceMul, Nat.reduceLeDiff, Nat.reduceLT, Nat.reduceEqDiff, Int.reduceToNat, Int.reduceLE, Int.reduceLT, List.forall_mem_cons, List.not_mem_nil, false_implies, implies_true]))
      | refine awp_seq_k (fun K hK => ?_)
      | refine awp_block ?_
      | refine awp_region_w (by first | (simp; done) | assumption | (simp; omega)) (fun Q hQ => ?_)
      | refine awp_region_q mixed (by kernel_rfl) (by kernel_rfl) rfl (by first | (simp; done) | assumption | (simp; omega)) (fun Q hQ => ?_)
      | refine Both.mk ?_ ?_
      | (refine hQ _ _ ?_; clear hQ Q)
      | (refine hQ _ ?_; clear hQ Q)
      | refine awp_cond_true rfl ?_
      | refine awp_cond_false rfl ?_
      | refine awp_skip ?_
      | (refine awp_exit ?_; simp only [go_sem, Nat.reduceEqDiff])
      | (refine awp_ret ?_; try simp only [inBlock_ret, andThen_ret])
      | ((first | refine hK _ ?_ | (clear hK K; refine hK _ ?_) | (clear hK K; clear hK K; refine hK _ ?_) | (clear hK K; clear hK K; clear hK K; refine hK _ ?_) | (clear hK K; clear hK K; clear hK K; clear hK K; refine hK _ ?_) | (clear hK K; clear hK K; clear hK K; clear hK K; clear hK K; refine hK _ ?_) | (clear hK K; clear hK K; clear hK K; clear hK K; clear hK K; clear hK K; refine hK _ ?_)); clear hK; clear K)
      | refine And.intro (by first | assumption | omega | trivial | rfl | (simp; done)) ?_
      | (refine awp_cond _ rfl (fun hc => ?_) (fun hc => ?_) <;> (try simp only [Bool.not_eq_true', Bool.not_eq_false'] at hc) <;> (try simp only [hc]))
      | (refine gdW_split (fun hc => ?_) (fun hc => ?_) <;> (try simp only [Bool.not_eq_true', Bool.not_eq_false'] at hc))
      | (refine gdQ_split (fun hc => ?_) (fun hc => ?_) <;> (try simp only [Bool.not_eq_true', Bool.not_eq_false'] at hc)))
    · exact ⟨_, rfl, _, weak_nil 50 8 H.length rfl rfl (Nat.le_refl _) (by simp only [go_sem]; simp [NilT]), _, rfl, rfl, rfl⟩
    · exact ⟨_, rfl, _, Weak.refl _ _, _, rfl, rfl, rfl⟩
  | cons x xs =>
    repeat' (first
      | ((with_reducible first | refine isWL ?_ | refine isGW ?_ | refine isWQ ?_ | refine isGQ ?_); (first | simp only [go_sem, Nat.reduceAdd, Nat.reduceMul, Nat.reduceLeDiff, Nat.reduceLT, Nat.reduceEqDiff, Int.reduceToNat, Int.reduceLE, Int.reduceLT, List.forall_mem_cons, List.not_mem_nil, false_implies, implies_true, hc] | simp only [go_sem, Nat.reduceAdd, Nat.reduceMul, Nat.reduceLeDiff, Nat.reduceLT, Nat.reduceEqDiff, Int.reduceToNat, Int.reduceLE, Int.reduceLT, List.forall_mem_cons, List.not_mem_nil, false_implies, implies_true]))
      | refine awp_seq_k (fun K hK => ?_)
      | refine awp_block ?_
      | refine awp_region_w (by first | (simp; done) | assumption | (simp; omega)) (fun Q hQ => ?_)
      | refine awp_region_q mixed (by kernel_rfl) (by kernel_rfl) rfl (by first | (simp; done) | assumption | (simp; omega)) (fun Q hQ => ?_)
      | refine Both.mk ?_ ?_
      | (refine hQ _ _ ?_; clear hQ Q)
      | (refine hQ _ ?_; clear hQ Q)
      | refine awp_cond_true rfl ?_
      | refine awp_cond_false rfl ?_
      | refine awp_skip ?_
      | (refine awp_exit ?_; simp only [go_sem, Nat.reduceEqDiff])
      | (refine awp_ret ?_; try simp only [inBlock_ret, andThen_ret])
      | ((first | refine hK _ ?_ | (clear hK K; refine hK _ ?_) | (clear hK K; clear hK K; refine hK _ ?_) | (clear hK K; clear hK K; clear hK K; refine hK _ ?_) | (clear hK K; clear hK K; clear hK K; clear hK K; refine hK _ ?_) | (clear hK K; clear hK K; clear hK K; clear hK K; clear hK K; refine hK _ ?_) | (clear hK K; clear hK K; clear hK K; clear hK K; clear hK K; clear hK K; refine hK _ ?_)); clear hK; clear K)
      | refine And.intro (by first | assumption | omega | trivial | rfl | (simp; done) | (exact ⟨⟨hc x (by simp), fun y hy => hc y (by simp [hy])⟩, by simp at hn; omega⟩)) ?_
      | (refine awp_cond _ rfl (fun hc => ?_) (fun hc => ?_) <;> (try simp only [Bool.not_eq_true', Bool.not_eq_false'] at hc) <;> (try simp only [hc]))
      | (refine gdW_split (fun hc => ?_) (fun hc => ?_) <;> (try simp only [Bool.not_eq_true', Bool.not_eq_false'] at hc))
      | (refine gdQ_split (fun hc => ?_) (fun hc => ?_) <;> (try simp only [Bool.not_eq_true', Bool.not_eq_false'] at hc)))
    all_goals exact ⟨_, rfl, _, Weak.refl _ _, _, rfl, rfl, rfl⟩

def aloneRule (r : RuleR) : RuleR := if r.kind == 4 && (nameB r.schema && (nameB r.table && nameB r.key)) then { r with kind := 1, schema := [], table := [], key := [] } else r

def aloneT (t : TableR) : TableR := ⟨[115], [116], [111], t.cols, t.rules.map aloneRule⟩
def aloneO (t : TableR) : ObjsR := ⟨[⟨[115], [111]⟩], [aloneT t]⟩

/-- The rules behind i rounds. -/
def aloneL (l : List RuleR) (i : Nat) : List RuleR := (l.take i).map aloneRule ++ l.drop i
theorem aloneL_len (l : List RuleR) (i : Nat) : (aloneL l i).length = l.length := by simp [aloneL]; omega
theorem aloneL_at {l : List RuleR} {i : Nat} {a : RuleR} (h : l[i]? = some a) : (aloneL l i)[i]? = some a := by
  have hi := lt_of_get h
  have hm : ((l.take i).map aloneRule).length = i := by simp; omega
  unfold aloneL
  rw [List.getElem?_append_right (by omega), hm, drop_cons h]
  simp
theorem aloneL_succ {l : List RuleR} {i : Nat} {a : RuleR} (h : l[i]? = some a) : aloneL l (i + 1) = (aloneL l i).set i (aloneRule a) := by
  have hi := lt_of_get h
  have hm : ((l.take i).map aloneRule).length = i := by simp; omega
  unfold aloneL
  rw [drop_cons h, List.set_append_right _ _ (by omega), hm, Nat.sub_self, List.set_cons_zero]
  rw [List.getElem?_eq_getElem hi] at h
  cases h
  rw [List.take_succ_eq_append_getElem hi, List.map_append, List.append_assoc]
  rfl
theorem set_same {α : Type} {l : List α} {i : Nat} {a : α} (h : l[i]? = some a) : l.set i a = l := by
  have hi := lt_of_get h
  rw [List.getElem?_eq_getElem hi] at h
  cases h
  exact List.set_getElem_self hi
theorem look_set {l : List AV} {i : Nat} {x : AV} (h : i < l.length) : look (l.set i x) i = x := by
  rw [look_eq, List.getD_eq_getElem?_getD, List.getElem?_set_self h]
  rfl

theorem alone_q (t : TableR) (ht : t.fit) (H : List AObj) : QuietF Go.Proofs.Try.prog 36 [TableR.av t] H (.agg (aloneO t).cells) := by
  refine ACallF.of hb_36 (acalls_body Try.func36 rfl ?_)
  intro hB hA
  rw [args0_36]
  obtain ⟨t1, t2, t3, t4, t5, t6, t7⟩ := ht
  repeat (first
    | ((with_reducible first | refine isWL ?_ | refine isGW ?_ | refine isWQ ?_ | refine isGQ ?_ | refine isWE ?_ | refine isNE ?_); simp only [and_assoc, true_and, go_sem, Nat.reduceAdd, Nat.reduceMul, Nat.reduceLeDiff, Nat.reduceLT, Nat.reduceEqDiff, Int.reduceToNat, Int.reduceLE, Int.reduceLT, List.forall_mem_cons, List.not_mem_nil, false_implies, implies_true, List.length_map])
    | refine awp_seq_k (fun K hK => ?_)
    | refine awp_block ?_
    | refine awp_region_w (by first | (simp; done) | assumption | (simp; omega)) (fun Q hQ => ?_)
    | refine awp_region_e [14, 17, 20, 23] [.quiet [0], .quiet [0], .quiet [0], .quiet [0, 1], .quiet [0, 1], .quiet [0, 1], .quiet [0, 1, 2], .quiet [0, 1, 2], .quiet [0, 1, 2], .quiet [0, 1, 2, 3], .quiet [0, 1, 2, 3], .quiet [0, 1, 2, 3], .quiet [0], .quiet [0], .eff 0, .quiet [1], .quiet [1], .eff 1, .quiet [2], .quiet [2], .eff 2, .quiet [3], .quiet [3], .eff 3] [38, 39, 40, 41, 42, 43, 44, 45, 46, 47, 48, 49, 50, 51, 52, 53, 54, 55, 56, 57] mixed (by kernel_rfl) (by kernel_rfl) (by kernel_rfl) rfl rfl ?_
    | refine awp_region_q mixed (by kernel_rfl) (by kernel_rfl) rfl (by first | (simp; done) | assumption | (simp; omega)) (fun Q hQ => ?_)
    | refine callW_new (cloneRule_n (t.rules.map RuleR.av) (by simp; omega) (by intro x hx; obtain ⟨r, _, rfl⟩ := List.mem_map.1 hx; rfl) _) ?_
    | refine callE_new (cloneRule_n (t.rules.map RuleR.av) (by simp; omega) (by intro x hx; obtain ⟨r, _, rfl⟩ := List.mem_map.1 hx; rfl) _) ?_
    | refine And.intro (callR_new (cloneRule_n (t.rules.map RuleR.av) (by simp; omega) (by intro x hx; obtain ⟨r, _, rfl⟩ := List.mem_map.1 hx; rfl) _) rfl (by simp only [List.append_assoc, List.cons_append, List.nil_append])) ?_
    | refine Both.mk ?_ ?_
    | (refine hQ _ _ ?_; clear hQ Q)
    | (refine hQ _ ?_; clear hQ Q)
    | refine awp_cond_true rfl ?_
    | refine awp_cond_false rfl ?_
    | refine awp_skip ?_
    | (refine awp_exit ?_; simp only [go_sem, Nat.reduceEqDiff])
    | (refine awp_ret ?_; try simp only [inBlock_ret, andThen_ret])
    | ((first | refine hK _ ?_ | (clear hK K; refine hK _ ?_) | (clear hK K; clear hK K; refine hK _ ?_) | (clear hK K; clear hK K; clear hK K; refine hK _ ?_) | (clear hK K; clear hK K; clear hK K; clear hK K; refine hK _ ?_) | (clear hK K; clear hK K; clear hK K; clear hK K; clear hK K; refine hK _ ?_) | (clear hK K; clear hK K; clear hK K; clear hK K; clear hK K; clear hK K; refine hK _ ?_)); clear hK; clear K)
    | refine And.intro (by first | assumption | omega | trivial | rfl | (simp; done)) ?_)
  refine awp_loop_at (fun T n S => ∃ (i : Nat) , (i ≤ (t.rules).length ∧ True) ∧ n = (t.rules).length - i ∧ S = ⟨setT T [(15, .int .i64 (i : Int)), (3, .junk), (4, .junk), (16, .junk), (17, .junk), (18, .junk), (19, .junk), (20, .junk), (21, .junk), (22, .junk), (23, .junk), (24, .junk), (25, .junk), (26, .junk), (27, .junk), (28, .junk), (29, .junk), (30, .junk), (31, .junk), (32, .junk), (33, .junk), (34, .junk), (35, .junk), (36, .junk), (37, .junk), (38, .junk), (39, .junk), (40, .junk), (41, .junk), (42, .junk), (43, .junk), (44, .junk), (45, .junk), (46, .junk), (47, .junk), (48, .junk), (49, .junk), (50, .junk), (51, .junk), (52, .junk), (53, .junk), (54, .junk), (55, .junk), (56, .junk), (57, .junk), (58, .junk)], H ++ [.var [.str [115], .str [116], .str [111], .fz (t.cols.map ColR.av), .sl (H.length + 2) 0 0 t.rules.length], .var [.nils, .nils], .arr 0 50 8 ((aloneL t.rules i).map RuleR.av)]⟩) ?_ ?_
  · refine ⟨_, _, weak_junk ?_, 0, ⟨Nat.zero_le _, by first | rfl | assumption | (simp; done) | trivial⟩, rfl, rfl⟩
    simp only [go_sem]; simp [LeT]
  · rintro n S ⟨i, ⟨hi, hinv⟩, rfl, rfl⟩
    by_cases hlt : i < (t.rules).length
    · have hw := wrap_succ hlt (by omega)
      have hd : decide (i < (t.rules).length) = true := by simpa using hlt
      obtain ⟨a, ha⟩ : ∃ a, (t.rules)[i]? = some a := ⟨_, List.getElem?_eq_getElem hlt⟩
      have hl := look_map (g := RuleR.av) ha
      have hmem := List.mem_of_getElem? ha
      try rw [drop_cons ha] at hinv
      have hl2 := look_map (g := RuleR.av) (aloneL_at ha)
      have hlen := aloneL_len t.rules i
      have hla : i < ((aloneL t.rules i).map RuleR.av).length := by rw [List.length_map, hlen]; exact hlt
      have hset := fun x => look_set (x := x) hla
      have hsucc := aloneL_succ ha
      have hsame := set_same (aloneL_at ha)
      obtain ⟨⟨g1, g2, g3, g4, g5⟩, g6⟩ := t6 a hmem
      repeat' (first
        | ((with_reducible first | refine isWL ?_ | refine isGW ?_ | refine isWQ ?_ | refine isGQ ?_ | refine isWE ?_ | refine isNE ?_); (first | simp only [and_assoc, true_and, go_sem, Nat.reduceAdd, Nat.reduceMul, Nat.reduceLeDiff, Nat.reduceLT, Nat.reduceEqDiff, Int.reduceToNat, Int.reduceLE, Int.reduceLT, List.forall_mem_cons, List.not_mem_nil, false_implies, implies_true, hd, hw, hlt, hl2, hlen, hset, List.length_map, List.length_set, List.set_set, hc] | simp only [and_assoc, true_and, go_sem, Nat.reduceAdd, Nat.reduceMul, Nat.reduceLeDiff, Nat.reduceLT, Nat.reduceEqDiff, Int.reduceToNat, Int.reduceLE, Int.reduceLT, List.forall_mem_cons, List.not_mem_nil, false_implies, implies_true, hd, hw, hlt, hl2, hlen, hset, List.length_map, List.length_set, List.set_set]))
        | refine awp_seq_k (fun K hK => ?_)
        | refine awp_block ?_
        | refine awp_region_w (by first | (simp; done) | assumption | (simp; omega)) (fun Q hQ => ?_)
        | refine awp_region_e [14, 17, 20, 23] [.quiet [0], .quiet [0], .quiet [0], .quiet [0, 1], .quiet [0, 1], .quiet [0, 1], .quiet [0, 1, 2], .quiet [0, 1, 2], .quiet [0, 1, 2], .quiet [0, 1, 2, 3], .quiet [0, 1, 2, 3], .quiet [0, 1, 2, 3], .quiet [0], .quiet [0], .eff 0, .quiet [1], .quiet [1], .eff 1, .quiet [2], .quiet [2], .eff 2, .quiet [3], .quiet [3], .eff 3] [38, 39, 40, 41, 42, 43, 44, 45, 46, 47, 48, 49, 50, 51, 52, 53, 54, 55, 56, 57] mixed (by kernel_rfl) (by kernel_rfl) (by kernel_rfl) rfl rfl ?_
        | refine awp_region_q mixed (by kernel_rfl) (by kernel_rfl) rfl (by first | (simp; done) | assumption | (simp; omega)) (fun Q hQ => ?_)
        | refine callW_quiet (name_q a.schema g3 _) ?_
        | refine callQ_quiet (name_q a.schema g3 _) ?_
        | refine callE_quiet (name_q a.schema g3 _) ?_
        | refine And.intro (callR_quiet (name_q a.schema g3 _) rfl) ?_
        | refine callW_quiet (name_q a.table g4 _) ?_
        | refine callQ_quiet (name_q a.table g4 _) ?_
        | refine callE_quiet (name_q a.table g4 _) ?_
        | refine And.intro (callR_quiet (name_q a.table g4 _) rfl) ?_
        | refine callW_quiet (name_q a.key g5 _) ?_
        | refine callQ_quiet (name_q a.key g5 _) ?_
        | refine callE_quiet (name_q a.key g5 _) ?_
        | refine And.intro (callR_quiet (name_q a.key g5 _) rfl) ?_
        | refine Both.mk ?_ ?_
        | (refine hQ _ _ ?_; clear hQ Q)
        | (refine hQ _ ?_; clear hQ Q)
        | refine awp_cond_true rfl ?_
        | refine awp_cond_false rfl ?_
        | refine awp_skip ?_
        | (refine awp_exit ?_; simp only [go_sem, Nat.reduceEqDiff])
        | (refine awp_ret ?_; try simp only [inBlock_ret, andThen_ret])
        | ((first | refine hK _ ?_ | (clear hK K; refine hK _ ?_) | (clear hK K; clear hK K; refine hK _ ?_) | (clear hK K; clear hK K; clear hK K; refine hK _ ?_) | (clear hK K; clear hK K; clear hK K; clear hK K; refine hK _ ?_) | (clear hK K; clear hK K; clear hK K; clear hK K; clear hK K; refine hK _ ?_) | (clear hK K; clear hK K; clear hK K; clear hK K; clear hK K; clear hK K; refine hK _ ?_)); clear hK; clear K)
        | refine And.intro (by first | assumption | omega | trivial | rfl | (simp; done)) ?_
        | (refine awp_cond _ rfl (fun hc => ?_) (fun hc => ?_) <;> (try simp only [Bool.not_eq_true', Bool.not_eq_false'] at hc) <;> (try simp only [hc]))
        | (refine gdW_split (fun hc => ?_) (fun hc => ?_) <;> (try simp only [Bool.not_eq_true', Bool.not_eq_false'] at hc))
        | (refine gdQ_split (fun hc => ?_) (fun hc => ?_) <;> (try simp only [Bool.not_eq_true', Bool.not_eq_false'] at hc)))
      all_goals
        simp only [aloneRule, *, Bool.true_and, Bool.and_self, Bool.and_false, Bool.false_and, if_true, Bool.false_eq_true, if_false] at hsucc
        rw [andThen_normal]
        refine ⟨(t.rules).length - (i + 1), by omega, _, ?_, i + 1, ⟨by omega, hinv⟩, rfl, rfl⟩
        first
          | (refine weak_junk ?_; (try simp only [go_sem]); simp [LeT]; done)
          | (simp only [go_sem, List.map_append, List.map_cons, List.map_nil, List.length_append, List.length_cons, List.length_nil, List.length_map, Nat.zero_add, List.append_assoc, List.cons_append, List.nil_append, hsucc, hsame, List.map_set]; refine weak_junk ?_; simp [LeT]; done)
          | ((try simp only [go_sem, List.map_append, List.map_cons, List.map_nil, List.length_append, List.length_cons, List.length_nil, List.length_map, Nat.zero_add, List.append_assoc, List.cons_append, List.nil_append, hsucc, hsame, List.map_set]); refine weak_cut _ (by first | rfl | (simp only [List.append_assoc, List.cons_append, List.nil_append]; rfl)) (by simp) (by simp [LeT]) (by simp) (by first | exact hB | (refine hB_app hB ?_; simp; done) | (refine hB_app hB ?_; simp [or_imp, forall_and]; done) | (refine hB_app hB ?_; simp; refine forall_set ?_ ?_ <;> simp; done)); done)
    · have hd : decide (i < (t.rules).length) = false := by simpa using hlt
      have hnil : (t.rules).drop i = [] := List.drop_eq_nil_of_le (by omega)
      try rw [hnil] at hinv
      have hend : aloneL t.rules i = t.rules.map aloneRule := by
        have : i = t.rules.length := by omega
        subst this
        simp [aloneL]
      rw [hend]
      repeat (first
        | ((with_reducible first | refine isWL ?_ | refine isGW ?_ | refine isWQ ?_ | refine isGQ ?_ | refine isWE ?_ | refine isNE ?_); simp only [and_assoc, true_and, go_sem, Nat.reduceAdd, Nat.reduceMul, Nat.reduceLeDiff, Nat.reduceLT, Nat.reduceEqDiff, Int.reduceToNat, Int.reduceLE, Int.reduceLT, List.forall_mem_cons, List.not_mem_nil, false_implies, implies_true, hd])
        | refine awp_seq_k (fun K hK => ?_)
        | refine awp_block ?_
        | refine awp_region_w (by first | (simp; done) | assumption | (simp; omega)) (fun Q hQ => ?_)
        | refine awp_region_e [14, 17, 20, 23] [.quiet [0], .quiet [0], .quiet [0], .quiet [0, 1], .quiet [0, 1], .quiet [0, 1], .quiet [0, 1, 2], .quiet [0, 1, 2], .quiet [0, 1, 2], .quiet [0, 1, 2, 3], .quiet [0, 1, 2, 3], .quiet [0, 1, 2, 3], .quiet [0], .quiet [0], .eff 0, .quiet [1], .quiet [1], .eff 1, .quiet [2], .quiet [2], .eff 2, .quiet [3], .quiet [3], .eff 3] [38, 39, 40, 41, 42, 43, 44, 45, 46, 47, 48, 49, 50, 51, 52, 53, 54, 55, 56, 57] mixed (by kernel_rfl) (by kernel_rfl) (by kernel_rfl) rfl rfl ?_
        | refine awp_region_q mixed (by kernel_rfl) (by kernel_rfl) rfl (by first | (simp; done) | assumption | (simp; omega)) (fun Q hQ => ?_)
        | refine Both.mk ?_ ?_
        | (refine hQ _ _ ?_; clear hQ Q)
        | (refine hQ _ ?_; clear hQ Q)
        | refine awp_cond_true rfl ?_
        | refine awp_cond_false rfl ?_
        | refine awp_skip ?_
        | (refine awp_exit ?_; simp only [go_sem, Nat.reduceEqDiff])
        | (refine awp_ret ?_; try simp only [inBlock_ret, andThen_ret])
        | ((first | refine hK _ ?_ | (clear hK K; refine hK _ ?_) | (clear hK K; clear hK K; refine hK _ ?_) | (clear hK K; clear hK K; clear hK K; refine hK _ ?_) | (clear hK K; clear hK K; clear hK K; clear hK K; refine hK _ ?_) | (clear hK K; clear hK K; clear hK K; clear hK K; clear hK K; refine hK _ ?_) | (clear hK K; clear hK K; clear hK K; clear hK K; clear hK K; clear hK K; refine hK _ ?_)); clear hK; clear K)
        | refine And.intro (by first | assumption | omega | trivial | rfl | (simp; done)) ?_)
      refine end_dfz _ hB (by simp only [go_sem]; rfl) rfl ?_
      refine Dfz.aggL ⟨.same _ (by simp), ?_, trivial⟩
      refine Dfz.fzE ⟨⟨.same _ (by simp), .same _ (by simp), .same _ (by simp), .same _ (by simp), ?_, trivial⟩, trivial⟩
      refine Dfz.slE (by simp only [go_sem]; rfl) (by simp) (by simp [RuleR.av, RuleR.cells, AV.cells]) (by simp [aloneT]) (DfzE.same (by simp))

end Go.Proofs.Ytamoclnnakdiaaa.Abs
