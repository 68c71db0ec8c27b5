/-
  The reference's columns and rules: they are what the program's are.
  Conditions: none.
-/
import Derived.Test.YtamoclnnakdiaaaC18
import Derived.Test.YtamoclnnakdiaaaA21
namespace Go.Proofs.Ytamoclnnakdiaaa.Abs
open Go Go.RowKit
set_option linter.unusedVariables false
set_option maxRecDepth 100000
set_option maxHeartbeats 4000000
set_option linter.unusedSimpArgs false

/-- The first place, reckoned from i on. -/
def idxG {α : Type} (p : α → Bool) : Nat → List α → Int
  | _, [] => -1
  | i, a :: l => if p a = true then (i : Int) else idxG p (i + 1) l

theorem idxG_of {α : Type} (p : α → Bool) : ∀ (l : List α) (i : Nat), idxG p i l = if l.findIdx p < l.length then ((i + l.findIdx p : Nat) : Int) else -1
  | [], i => by simp [idxG]
  | a :: l, i => by
    simp only [idxG, List.findIdx_cons]
    cases hp : p a with
    | true => simp
    | false =>
      rw [if_neg (by simp), idxG_of p l (i + 1)]
      by_cases hl : l.findIdx p < l.length
      · simp [hl]; omega
      · simp [hl]
theorem idxG_zero {α : Type} (p : α → Bool) (l : List α) : idxG p 0 l = idxOf p l := by
  rw [idxG_of]
  simp [idxOf]

theorem refColumn_q (l : List ColR) (s : List UInt8) (hn : l.length ≤ 140737488351232) (H : List AObj) : QuietF Go.Proofs.Try.prog 46 [.fz (l.map ColR.av), .str s] H (.int .i64 (idxOf (fun c => c.name == s) l)) := by
  refine ACallF.of hb_46 (acalls_body Try.func46 rfl ?_)
  intro hB hA
  rw [args0_46]
  rw [← idxG_zero]
  repeat (first
    | ((with_reducible first | refine isWL ?_ | refine isGW ?_ | refine isWQ ?_ | refine isGQ ?_); simp only [go_sem, Nat.reduceAdd, Nat.reduceMul, Nat.reduceLeDiff, Nat.reduceLT, Nat.reduceEqDiff, Int.reduceToNat, Int.reduceLE, Int.reduceLT, List.forall_mem_cons, List.not_mem_nil, false_implies, implies_true])
    | refine awp_seq_k (fun K hK => ?_)
    | refine awp_block ?_
    | refine awp_region_w (by first | (simp; done) | assumption | (simp; omega)) (fun Q hQ => ?_)
    | refine awp_region_q mixed (by kernel_rfl) (by kernel_rfl) rfl (by first | (simp; done) | assumption | (simp; omega)) (fun Q hQ => ?_)
    | refine Both.mk ?_ ?_
    | (refine hQ _ _ ?_; clear hQ Q)
    | (refine hQ _ ?_; clear hQ Q)
    | refine awp_cond_true rfl ?_
    | refine awp_cond_false rfl ?_
    | refine awp_skip ?_
    | (refine awp_exit ?_; simp only [go_sem, Nat.reduceEqDiff])
    | (refine awp_ret ?_; try simp only [inBlock_ret, andThen_ret])
    | ((first | refine hK _ ?_ | (clear hK K; refine hK _ ?_) | (clear hK K; clear hK K; refine hK _ ?_) | (clear hK K; clear hK K; clear hK K; refine hK _ ?_) | (clear hK K; clear hK K; clear hK K; clear hK K; refine hK _ ?_) | (clear hK K; clear hK K; clear hK K; clear hK K; clear hK K; refine hK _ ?_) | (clear hK K; clear hK K; clear hK K; clear hK K; clear hK K; clear hK K; refine hK _ ?_)); clear hK; clear K)
    | refine And.intro (by first | assumption | omega | trivial | rfl | (simp; done)) ?_)
  refine awp_loop_at (fun T n S => ∃ (i : Nat) , (i ≤ (l).length ∧ idxG (fun c => c.name == s) i (l.drop i) = idxG (fun c => c.name == s) 0 l) ∧ n = (l).length - i ∧ S = ⟨setT T [(5, .int .i64 (i : Int)), (4, .junk), (6, .junk), (7, .junk), (8, .junk), (9, .junk), (10, .junk), (11, .junk), (12, .junk), (13, .junk), (14, .junk), (15, .junk), (16, .junk), (17, .junk), (18, .junk), (19, .junk)], H⟩) ?_ ?_
  · refine ⟨_, _, weak_junk ?_, 0, ⟨Nat.zero_le _, by first | rfl | assumption | (simp; done) | trivial⟩, rfl, rfl⟩
    simp only [go_sem]; simp [LeT]
  · rintro n S ⟨i, ⟨hi, hinv⟩, rfl, rfl⟩
    by_cases hlt : i < (l).length
    · have hw := wrap_succ hlt (by omega)
      have hd : decide (i < (l).length) = true := by simpa using hlt
      obtain ⟨a, ha⟩ : ∃ a, (l)[i]? = some a := ⟨_, List.getElem?_eq_getElem hlt⟩
      have hl := look_map (g := ColR.av) ha
      have hmem := List.mem_of_getElem? ha
      try rw [drop_cons ha] at hinv
      simp only [idxG] at hinv
      repeat' (first
        | ((with_reducible first | refine isWL ?_ | refine isGW ?_ | refine isWQ ?_ | refine isGQ ?_); (first | simp only [go_sem, Nat.reduceAdd, Nat.reduceMul, Nat.reduceLeDiff, Nat.reduceLT, Nat.reduceEqDiff, Int.reduceToNat, Int.reduceLE, Int.reduceLT, List.forall_mem_cons, List.not_mem_nil, false_implies, implies_true, hd, hw, hl, hlt, List.length_map, hc] | simp only [go_sem, Nat.reduceAdd, Nat.reduceMul, Nat.reduceLeDiff, Nat.reduceLT, Nat.reduceEqDiff, Int.reduceToNat, Int.reduceLE, Int.reduceLT, List.forall_mem_cons, List.not_mem_nil, false_implies, implies_true, hd, hw, hl, hlt, List.length_map]))
        | refine awp_seq_k (fun K hK => ?_)
        | refine awp_block ?_
        | refine awp_region_w (by first | (simp; done) | assumption | (simp; omega)) (fun Q hQ => ?_)
        | refine awp_region_q mixed (by kernel_rfl) (by kernel_rfl) rfl (by first | (simp; done) | assumption | (simp; omega)) (fun Q hQ => ?_)
        | refine Both.mk ?_ ?_
        | (refine hQ _ _ ?_; clear hQ Q)
        | (refine hQ _ ?_; clear hQ Q)
        | refine awp_cond_true rfl ?_
        | refine awp_cond_false rfl ?_
        | refine awp_skip ?_
        | (refine awp_exit ?_; simp only [go_sem, Nat.reduceEqDiff])
        | (refine awp_ret ?_; try simp only [inBlock_ret, andThen_ret])
        | ((first | refine hK _ ?_ | (clear hK K; refine hK _ ?_) | (clear hK K; clear hK K; refine hK _ ?_) | (clear hK K; clear hK K; clear hK K; refine hK _ ?_) | (clear hK K; clear hK K; clear hK K; clear hK K; refine hK _ ?_) | (clear hK K; clear hK K; clear hK K; clear hK K; clear hK K; refine hK _ ?_) | (clear hK K; clear hK K; clear hK K; clear hK K; clear hK K; clear hK K; refine hK _ ?_)); clear hK; clear K)
        | refine And.intro (by first | assumption | omega | trivial | rfl | (simp; done)) ?_
        | (refine awp_cond _ rfl (fun hc => ?_) (fun hc => ?_) <;> (try simp only [Bool.not_eq_true', Bool.not_eq_false'] at hc) <;> (try simp only [hc]))
        | (refine gdW_split (fun hc => ?_) (fun hc => ?_) <;> (try simp only [Bool.not_eq_true', Bool.not_eq_false'] at hc))
        | (refine gdQ_split (fun hc => ?_) (fun hc => ?_) <;> (try simp only [Bool.not_eq_true', Bool.not_eq_false'] at hc)))
      · simp only [*, if_true] at hinv
        rw [← hinv]
        first | exact end_quiet0 rfl rfl | exact end_quiet hB rfl rfl (by simp)
      · simp only [*, Bool.false_eq_true, if_false] at hinv
        rw [andThen_normal]
        refine ⟨(l).length - (i + 1), by omega, _, ?_, i + 1, ⟨by omega, hinv⟩, rfl, rfl⟩
        first
          | (refine weak_junk ?_; (try simp only [go_sem]); simp [LeT]; done)
          | (simp only [go_sem, List.map_append, List.map_cons, List.map_nil, List.length_append, List.length_cons, List.length_nil, List.length_map, Nat.zero_add, List.append_assoc, List.cons_append, List.nil_append]; refine weak_junk ?_; simp [LeT]; done)
          | ((try simp only [go_sem, List.map_append, List.map_cons, List.map_nil, List.length_append, List.length_cons, List.length_nil, List.length_map, Nat.zero_add, List.append_assoc, List.cons_append, List.nil_append]); refine weak_cut _ (by first | rfl | (simp only [List.append_assoc, List.cons_append, List.nil_append]; rfl)) (by simp) (by simp [LeT]) (by simp) (by first | exact hB | (refine hB_app hB ?_; simp; done) | (refine hB_app hB ?_; simp [or_imp, forall_and]; done) | (refine hB_app hB ?_; simp; refine forall_set ?_ ?_ <;> simp; done)); done)
    · have hd : decide (i < (l).length) = false := by simpa using hlt
      have hnil : (l).drop i = [] := List.drop_eq_nil_of_le (by omega)
      try rw [hnil] at hinv
      repeat (first
        | ((with_reducible first | refine isWL ?_ | refine isGW ?_ | refine isWQ ?_ | refine isGQ ?_); simp only [go_sem, Nat.reduceAdd, Nat.reduceMul, Nat.reduceLeDiff, Nat.reduceLT, Nat.reduceEqDiff, Int.reduceToNat, Int.reduceLE, Int.reduceLT, List.forall_mem_cons, List.not_mem_nil, false_implies, implies_true, hd, List.length_map])
        | refine awp_seq_k (fun K hK => ?_)
        | refine awp_block ?_
        | refine awp_region_w (by first | (simp; done) | assumption | (simp; omega)) (fun Q hQ => ?_)
        | refine awp_region_q mixed (by kernel_rfl) (by kernel_rfl) rfl (by first | (simp; done) | assumption | (simp; omega)) (fun Q hQ => ?_)
        | refine Both.mk ?_ ?_
        | (refine hQ _ _ ?_; clear hQ Q)
        | (refine hQ _ ?_; clear hQ Q)
        | refine awp_cond_true rfl ?_
        | refine awp_cond_false rfl ?_
        | refine awp_skip ?_
        | (refine awp_exit ?_; simp only [go_sem, Nat.reduceEqDiff])
        | (refine awp_ret ?_; try simp only [inBlock_ret, andThen_ret])
        | ((first | refine hK _ ?_ | (clear hK K; refine hK _ ?_) | (clear hK K; clear hK K; refine hK _ ?_) | (clear hK K; clear hK K; clear hK K; refine hK _ ?_) | (clear hK K; clear hK K; clear hK K; clear hK K; refine hK _ ?_) | (clear hK K; clear hK K; clear hK K; clear hK K; clear hK K; refine hK _ ?_) | (clear hK K; clear hK K; clear hK K; clear hK K; clear hK K; clear hK K; refine hK _ ?_)); clear hK; clear K)
        | refine And.intro (by first | assumption | omega | trivial | rfl | (simp; done)) ?_)
      rw [← hinv]
      first | exact end_quiet0 rfl rfl | exact end_quiet hB rfl rfl (by simp)

theorem refRule_q (l : List RuleR) (s : List UInt8) (hn : l.length ≤ 140737488351232) (H : List AObj) : QuietF Go.Proofs.Try.prog 54 [.fz (l.map RuleR.av), .str s] H (.int .i64 (idxOf (fun c => c.name == s) l)) := by
  refine ACallF.of hb_54 (acalls_body Try.func54 rfl ?_)
  intro hB hA
  rw [args0_54]
  rw [← idxG_zero]
  repeat (first
    | ((with_reducible first | refine isWL ?_ | refine isGW ?_ | refine isWQ ?_ | refine isGQ ?_); simp only [go_sem, Nat.reduceAdd, Nat.reduceMul, Nat.reduceLeDiff, Nat.reduceLT, Nat.reduceEqDiff, Int.reduceToNat, Int.reduceLE, Int.reduceLT, List.forall_mem_cons, List.not_mem_nil, false_implies, implies_true])
    | refine awp_seq_k (fun K hK => ?_)
    | refine awp_block ?_
    | refine awp_region_w (by first | (simp; done) | assumption | (simp; omega)) (fun Q hQ => ?_)
    | refine awp_region_q mixed (by kernel_rfl) (by kernel_rfl) rfl (by first | (simp; done) | assumption | (simp; omega)) (fun Q hQ => ?_)
    | refine Both.mk ?_ ?_
    | (refine hQ _ _ ?_; clear hQ Q)
    | (refine hQ _ ?_; clear hQ Q)
    | refine awp_cond_true rfl ?_
    | refine awp_cond_false rfl ?_
    | refine awp_skip ?_
    | (refine awp_exit ?_; simp only [go_sem, Nat.reduceEqDiff])
    | (refine awp_ret ?_; try simp only [inBlock_ret, andThen_ret])
    | ((first | refine hK _ ?_ | (clear hK K; refine hK _ ?_) | (clear hK K; clear hK K; refine hK _ ?_) | (clear hK K; clear hK K; clear hK K; refine hK _ ?_) | (clear hK K; clear hK K; clear hK K; clear hK K; refine hK _ ?_) | (clear hK K; clear hK K; clear hK K; clear hK K; clear hK K; refine hK _ ?_) | (clear hK K; clear hK K; clear hK K; clear hK K; clear hK K; clear hK K; refine hK _ ?_)); clear hK; clear K)
    | refine And.intro (by first | assumption | omega | trivial | rfl | (simp; done)) ?_)
  refine awp_loop_at (fun T n S => ∃ (i : Nat) , (i ≤ (l).length ∧ idxG (fun c => c.name == s) i (l.drop i) = idxG (fun c => c.name == s) 0 l) ∧ n = (l).length - i ∧ S = ⟨setT T [(5, .int .i64 (i : Int)), (4, .junk), (6, .junk), (7, .junk), (8, .junk), (9, .junk), (10, .junk), (11, .junk), (12, .junk), (13, .junk), (14, .junk), (15, .junk), (16, .junk), (17, .junk), (18, .junk), (19, .junk)], H⟩) ?_ ?_
  · refine ⟨_, _, weak_junk ?_, 0, ⟨Nat.zero_le _, by first | rfl | assumption | (simp; done) | trivial⟩, rfl, rfl⟩
    simp only [go_sem]; simp [LeT]
  · rintro n S ⟨i, ⟨hi, hinv⟩, rfl, rfl⟩
    by_cases hlt : i < (l).length
    · have hw := wrap_succ hlt (by omega)
      have hd : decide (i < (l).length) = true := by simpa using hlt
      obtain ⟨a, ha⟩ : ∃ a, (l)[i]? = some a := ⟨_, List.getElem?_eq_getElem hlt⟩
      have hl := look_map (g := RuleR.av) ha
      have hmem := List.mem_of_getElem? ha
      try rw [drop_cons ha] at hinv
      simp only [idxG] at hinv
      repeat' (first
        | ((with_reducible first | refine isWL ?_ | refine isGW ?_ | refine isWQ ?_ | refine isGQ ?_); (first | simp only [go_sem, Nat.reduceAdd, Nat.reduceMul, Nat.reduceLeDiff, Nat.reduceLT, Nat.reduceEqDiff, Int.reduceToNat, Int.reduceLE, Int.reduceLT, List.forall_mem_cons, List.not_mem_nil, false_implies, implies_true, hd, hw, hl, hlt, List.length_map, hc] | simp only [go_sem, Nat.reduceAdd, Nat.reduceMul, Nat.reduceLeDiff, Nat.reduceLT, Nat.reduceEqDiff, Int.reduceToNat, Int.reduceLE, Int.reduceLT, List.forall_mem_cons, List.not_mem_nil, false_implies, implies_true, hd, hw, hl, hlt, List.length_map]))
        | refine awp_seq_k (fun K hK => ?_)
        | refine awp_block ?_
        | refine awp_region_w (by first | (simp; done) | assumption | (simp; omega)) (fun Q hQ => ?_)
        | refine awp_region_q mixed (by kernel_rfl) (by kernel_rfl) rfl (by first | (simp; done) | assumption | (simp; omega)) (fun Q hQ => ?_)
        | refine Both.mk ?_ ?_
        | (refine hQ _ _ ?_; clear hQ Q)
        | (refine hQ _ ?_; clear hQ Q)
        | refine awp_cond_true rfl ?_
        | refine awp_cond_false rfl ?_
        | refine awp_skip ?_
        | (refine awp_exit ?_; simp only [go_sem, Nat.reduceEqDiff])
        | (refine awp_ret ?_; try simp only [inBlock_ret, andThen_ret])
        | ((first | refine hK _ ?_ | (clear hK K; refine hK _ ?_) | (clear hK K; clear hK K; refine hK _ ?_) | (clear hK K; clear hK K; clear hK K; refine hK _ ?_) | (clear hK K; clear hK K; clear hK K; clear hK K; refine hK _ ?_) | (clear hK K; clear hK K; clear hK K; clear hK K; clear hK K; refine hK _ ?_) | (clear hK K; clear hK K; clear hK K; clear hK K; clear hK K; clear hK K; refine hK _ ?_)); clear hK; clear K)
        | refine And.intro (by first | assumption | omega | trivial | rfl | (simp; done)) ?_
        | (refine awp_cond _ rfl (fun hc => ?_) (fun hc => ?_) <;> (try simp only [Bool.not_eq_true', Bool.not_eq_false'] at hc) <;> (try simp only [hc]))
        | (refine gdW_split (fun hc => ?_) (fun hc => ?_) <;> (try simp only [Bool.not_eq_true', Bool.not_eq_false'] at hc))
        | (refine gdQ_split (fun hc => ?_) (fun hc => ?_) <;> (try simp only [Bool.not_eq_true', Bool.not_eq_false'] at hc)))
      · simp only [*, if_true] at hinv
        rw [← hinv]
        first | exact end_quiet0 rfl rfl | exact end_quiet hB rfl rfl (by simp)
      · simp only [*, Bool.false_eq_true, if_false] at hinv
        rw [andThen_normal]
        refine ⟨(l).length - (i + 1), by omega, _, ?_, i + 1, ⟨by omega, hinv⟩, rfl, rfl⟩
        first
          | (refine weak_junk ?_; (try simp only [go_sem]); simp [LeT]; done)
          | (simp only [go_sem, List.map_append, List.map_cons, List.map_nil, List.length_append, List.length_cons, List.length_nil, List.length_map, Nat.zero_add, List.append_assoc, List.cons_append, List.nil_append]; refine weak_junk ?_; simp [LeT]; done)
          | ((try simp only [go_sem, List.map_append, List.map_cons, List.map_nil, List.length_append, List.length_cons, List.length_nil, List.length_map, Nat.zero_add, List.append_assoc, List.cons_append, List.nil_append]); refine weak_cut _ (by first | rfl | (simp only [List.append_assoc, List.cons_append, List.nil_append]; rfl)) (by simp) (by simp [LeT]) (by simp) (by first | exact hB | (refine hB_app hB ?_; simp; done) | (refine hB_app hB ?_; simp [or_imp, forall_and]; done) | (refine hB_app hB ?_; simp; refine forall_set ?_ ?_ <;> simp; done)); done)
    · have hd : decide (i < (l).length) = false := by simpa using hlt
      have hnil : (l).drop i = [] := List.drop_eq_nil_of_le (by omega)
      try rw [hnil] at hinv
      repeat (first
        | ((with_reducible first | refine isWL ?_ | refine isGW ?_ | refine isWQ ?_ | refine isGQ ?_); simp only [go_sem, Nat.reduceAdd, Nat.reduceMul, Nat.reduceLeDiff, Nat.reduceLT, Nat.reduceEqDiff, Int.reduceToNat, Int.reduceLE, Int.reduceLT, List.forall_mem_cons, List.not_mem_nil, false_implies, implies_true, hd, List.length_map])
        | refine awp_seq_k (fun K hK => ?_)
        | refine awp_block ?_
        | refine awp_region_w (by first | (simp; done) | assumption | (simp; omega)) (fun Q hQ => ?_)
        | refine awp_region_q mixed (by kernel_rfl) (by kernel_rfl) rfl (by first | (simp; done) | assumption | (simp; omega)) (fun Q hQ => ?_)
        | refine Both.mk ?_ ?_
        | (refine hQ _ _ ?_; clear hQ Q)
        | (refine hQ _ ?_; clear hQ Q)
        | refine awp_cond_true rfl ?_
        | refine awp_cond_false rfl ?_
        | refine awp_skip ?_
        | (refine awp_exit ?_; simp only [go_sem, Nat.reduceEqDiff])
        | (refine awp_ret ?_; try simp only [inBlock_ret, andThen_ret])
        | ((first | refine hK _ ?_ | (clear hK K; refine hK _ ?_) | (clear hK K; clear hK K; refine hK _ ?_) | (clear hK K; clear hK K; clear hK K; refine hK _ ?_) | (clear hK K; clear hK K; clear hK K; clear hK K; refine hK _ ?_) | (clear hK K; clear hK K; clear hK K; clear hK K; clear hK K; refine hK _ ?_) | (clear hK K; clear hK K; clear hK K; clear hK K; clear hK K; clear hK K; refine hK _ ?_)); clear hK; clear K)
        | refine And.intro (by first | assumption | omega | trivial | rfl | (simp; done)) ?_)
      rw [← hinv]
      first | exact end_quiet0 rfl rfl | exact end_quiet hB rfl rfl (by simp)

theorem refIn_q (l : List (List UInt8)) (s : List UInt8) (hn : l.length ≤ 140737488351232) (H : List AObj) : QuietF Go.Proofs.Try.prog 79 [.fz (l.map .str), .str s] H (.bool (l.any (fun t => t == s))) := by
  refine ACallF.of hb_79 (acalls_body Try.func79 rfl ?_)
  intro hB hA
  rw [args0_79]
  repeat (first
    | ((with_reducible first | refine isWL ?_ | refine isGW ?_ | refine isWQ ?_ | refine isGQ ?_); simp only [go_sem, Nat.reduceAdd, Nat.reduceMul, Nat.reduceLeDiff, Nat.reduceLT, Nat.reduceEqDiff, Int.reduceToNat, Int.reduceLE, Int.reduceLT, List.forall_mem_cons, List.not_mem_nil, false_implies, implies_true])
    | refine awp_seq_k (fun K hK => ?_)
    | refine awp_block ?_
    | refine awp_region_w (by first | (simp; done) | assumption | (simp; omega)) (fun Q hQ => ?_)
    | refine awp_region_q mixed (by kernel_rfl) (by kernel_rfl) rfl (by first | (simp; done) | assumption | (simp; omega)) (fun Q hQ => ?_)
    | refine Both.mk ?_ ?_
    | (refine hQ _ _ ?_; clear hQ Q)
    | (refine hQ _ ?_; clear hQ Q)
    | refine awp_cond_true rfl ?_
    | refine awp_cond_false rfl ?_
    | refine awp_skip ?_
    | (refine awp_exit ?_; simp only [go_sem, Nat.reduceEqDiff])
    | (refine awp_ret ?_; try simp only [inBlock_ret, andThen_ret])
    | ((first | refine hK _ ?_ | (clear hK K; refine hK _ ?_) | (clear hK K; clear hK K; refine hK _ ?_) | (clear hK K; clear hK K; clear hK K; refine hK _ ?_) | (clear hK K; clear hK K; clear hK K; clear hK K; refine hK _ ?_) | (clear hK K; clear hK K; clear hK K; clear hK K; clear hK K; refine hK _ ?_) | (clear hK K; clear hK K; clear hK K; clear hK K; clear hK K; clear hK K; refine hK _ ?_)); clear hK; clear K)
    | refine And.intro (by first | assumption | omega | trivial | rfl | (simp; done)) ?_)
  refine awp_loop_at (fun T n S => ∃ (i : Nat) , (i ≤ (l).length ∧ (l.drop i).any (fun t => t == s) = l.any (fun t => t == s)) ∧ n = (l).length - i ∧ S = ⟨setT T [(5, .int .i64 (i : Int)), (4, .junk), (6, .junk), (7, .junk), (8, .junk), (9, .junk), (10, .junk), (11, .junk), (12, .junk), (13, .junk), (14, .junk), (15, .junk), (16, .junk), (17, .junk)], H⟩) ?_ ?_
  · refine ⟨_, _, weak_junk ?_, 0, ⟨Nat.zero_le _, by first | rfl | assumption | (simp; done) | trivial⟩, rfl, rfl⟩
    simp only [go_sem]; simp [LeT]
  · rintro n S ⟨i, ⟨hi, hinv⟩, rfl, rfl⟩
    by_cases hlt : i < (l).length
    · have hw := wrap_succ hlt (by omega)
      have hd : decide (i < (l).length) = true := by simpa using hlt
      obtain ⟨a, ha⟩ : ∃ a, (l)[i]? = some a := ⟨_, List.getElem?_eq_getElem hlt⟩
      have hl := look_map (g := AV.str) ha
      have hmem := List.mem_of_getElem? ha
      try rw [drop_cons ha] at hinv
      simp only [List.any_cons] at hinv
      repeat' (first
        | ((with_reducible first | refine isWL ?_ | refine isGW ?_ | refine isWQ ?_ | refine isGQ ?_); (first | simp only [go_sem, Nat.reduceAdd, Nat.reduceMul, Nat.reduceLeDiff, Nat.reduceLT, Nat.reduceEqDiff, Int.reduceToNat, Int.reduceLE, Int.reduceLT, List.forall_mem_cons, List.not_mem_nil, false_implies, implies_true, hd, hw, hl, hlt, List.length_map, hc] | simp only [go_sem, Nat.reduceAdd, Nat.reduceMul, Nat.reduceLeDiff, Nat.reduceLT, Nat.reduceEqDiff, Int.reduceToNat, Int.reduceLE, Int.reduceLT, List.forall_mem_cons, List.not_mem_nil, false_implies, implies_true, hd, hw, hl, hlt, List.length_map]))
        | refine awp_seq_k (fun K hK => ?_)
        | refine awp_block ?_
        | refine awp_region_w (by first | (simp; done) | assumption | (simp; omega)) (fun Q hQ => ?_)
        | refine awp_region_q mixed (by kernel_rfl) (by kernel_rfl) rfl (by first | (simp; done) | assumption | (simp; omega)) (fun Q hQ => ?_)
        | refine Both.mk ?_ ?_
        | (refine hQ _ _ ?_; clear hQ Q)
        | (refine hQ _ ?_; clear hQ Q)
        | refine awp_cond_true rfl ?_
        | refine awp_cond_false rfl ?_
        | refine awp_skip ?_
        | (refine awp_exit ?_; simp only [go_sem, Nat.reduceEqDiff])
        | (refine awp_ret ?_; try simp only [inBlock_ret, andThen_ret])
        | ((first | refine hK _ ?_ | (clear hK K; refine hK _ ?_) | (clear hK K; clear hK K; refine hK _ ?_) | (clear hK K; clear hK K; clear hK K; refine hK _ ?_) | (clear hK K; clear hK K; clear hK K; clear hK K; refine hK _ ?_) | (clear hK K; clear hK K; clear hK K; clear hK K; clear hK K; refine hK _ ?_) | (clear hK K; clear hK K; clear hK K; clear hK K; clear hK K; clear hK K; refine hK _ ?_)); clear hK; clear K)
        | refine And.intro (by first | assumption | omega | trivial | rfl | (simp; done)) ?_
        | (refine awp_cond _ rfl (fun hc => ?_) (fun hc => ?_) <;> (try simp only [Bool.not_eq_true', Bool.not_eq_false'] at hc) <;> (try simp only [hc]))
        | (refine gdW_split (fun hc => ?_) (fun hc => ?_) <;> (try simp only [Bool.not_eq_true', Bool.not_eq_false'] at hc))
        | (refine gdQ_split (fun hc => ?_) (fun hc => ?_) <;> (try simp only [Bool.not_eq_true', Bool.not_eq_false'] at hc)))
      · simp only [*, Bool.true_or] at hinv
        rw [← hinv]
        first | exact end_quiet0 rfl rfl | exact end_quiet hB rfl rfl (by simp)
      · simp only [*, Bool.false_or] at hinv
        rw [andThen_normal]
        refine ⟨(l).length - (i + 1), by omega, _, ?_, i + 1, ⟨by omega, hinv⟩, rfl, rfl⟩
        first
          | (refine weak_junk ?_; (try simp only [go_sem]); simp [LeT]; done)
          | (simp only [go_sem, List.map_append, List.map_cons, List.map_nil, List.length_append, List.length_cons, List.length_nil, List.length_map, Nat.zero_add, List.append_assoc, List.cons_append, List.nil_append]; refine weak_junk ?_; simp [LeT]; done)
          | ((try simp only [go_sem, List.map_append, List.map_cons, List.map_nil, List.length_append, List.length_cons, List.length_nil, List.length_map, Nat.zero_add, List.append_assoc, List.cons_append, List.nil_append]); refine weak_cut _ (by first | rfl | (simp only [List.append_assoc, List.cons_append, List.nil_append]; rfl)) (by simp) (by simp [LeT]) (by simp) (by first | exact hB | (refine hB_app hB ?_; simp; done) | (refine hB_app hB ?_; simp [or_imp, forall_and]; done) | (refine hB_app hB ?_; simp; refine forall_set ?_ ?_ <;> simp; done)); done)
    · have hd : decide (i < (l).length) = false := by simpa using hlt
      have hnil : (l).drop i = [] := List.drop_eq_nil_of_le (by omega)
      try rw [hnil] at hinv
      repeat (first
        | ((with_reducible first | refine isWL ?_ | refine isGW ?_ | refine isWQ ?_ | refine isGQ ?_); simp only [go_sem, Nat.reduceAdd, Nat.reduceMul, Nat.reduceLeDiff, Nat.reduceLT, Nat.reduceEqDiff, Int.reduceToNat, Int.reduceLE, Int.reduceLT, List.forall_mem_cons, List.not_mem_nil, false_implies, implies_true, hd, List.length_map])
        | refine awp_seq_k (fun K hK => ?_)
        | refine awp_block ?_
        | refine awp_region_w (by first | (simp; done) | assumption | (simp; omega)) (fun Q hQ => ?_)
        | refine awp_region_q mixed (by kernel_rfl) (by kernel_rfl) rfl (by first | (simp; done) | assumption | (simp; omega)) (fun Q hQ => ?_)
        | refine Both.mk ?_ ?_
        | (refine hQ _ _ ?_; clear hQ Q)
        | (refine hQ _ ?_; clear hQ Q)
        | refine awp_cond_true rfl ?_
        | refine awp_cond_false rfl ?_
        | refine awp_skip ?_
        | (refine awp_exit ?_; simp only [go_sem, Nat.reduceEqDiff])
        | (refine awp_ret ?_; try simp only [inBlock_ret, andThen_ret])
        | ((first | refine hK _ ?_ | (clear hK K; refine hK _ ?_) | (clear hK K; clear hK K; refine hK _ ?_) | (clear hK K; clear hK K; clear hK K; refine hK _ ?_) | (clear hK K; clear hK K; clear hK K; clear hK K; refine hK _ ?_) | (clear hK K; clear hK K; clear hK K; clear hK K; clear hK K; refine hK _ ?_) | (clear hK K; clear hK K; clear hK K; clear hK K; clear hK K; clear hK K; refine hK _ ?_)); clear hK; clear K)
        | refine And.intro (by first | assumption | omega | trivial | rfl | (simp; done)) ?_)
      rw [← hinv]
      first | exact end_quiet0 rfl rfl | exact end_quiet hB rfl rfl (by simp)

theorem refOne_q (c : ColR) (hc : tx c.name) (H : List AObj) : QuietF Go.Proofs.Try.prog 78 [ColR.av c] H (.bool (colB c)) := by
  refine ACallF.of hb_78 (acalls_body Try.func78 rfl ?_)
  intro hB hA
  rw [args0_78]
  repeat' (first
    | ((with_reducible first | refine isWL ?_ | refine isGW ?_ | refine isWQ ?_ | refine isGQ ?_); (first | simp only [go_sem, Nat.reduceAdd, Nat.reduceMul, Nat.reduceLeDiff, Nat.reduceLT, Nat.reduceEqDiff, Int.reduceToNat, Int.reduceLE, Int.reduceLT, List.forall_mem_cons, List.not_mem_nil, false_implies, implies_true, hc] | simp only [go_sem, Nat.reduceAdd, Nat.reduceMul, Nat.reduceLeDiff, Nat.reduceLT, Nat.reduceEqDiff, Int.reduceToNat, Int.reduceLE, Int.reduceLT, List.forall_mem_cons, List.not_mem_nil, false_implies, implies_true]))
    | refine awp_seq_k (fun K hK => ?_)
    | refine awp_block ?_
    | refine awp_region_w (by first | (simp; done) | assumption | (simp; omega)) (fun Q hQ => ?_)
    | refine awp_region_q mixed (by kernel_rfl) (by kernel_rfl) rfl (by first | (simp; done) | assumption | (simp; omega)) (fun Q hQ => ?_)
    | refine callW_quiet (refName_q c.name hc _) ?_
    | refine callQ_quiet (refName_q c.name hc _) ?_
    | refine Both.mk ?_ ?_
    | (refine hQ _ _ ?_; clear hQ Q)
    | (refine hQ _ ?_; clear hQ Q)
    | refine awp_cond_true rfl ?_
    | refine awp_cond_false rfl ?_
    | refine awp_skip ?_
    | (refine awp_exit ?_; simp only [go_sem, Nat.reduceEqDiff])
    | (refine awp_ret ?_; try simp only [inBlock_ret, andThen_ret])
    | ((first | refine hK _ ?_ | (clear hK K; refine hK _ ?_) | (clear hK K; clear hK K; refine hK _ ?_) | (clear hK K; clear hK K; clear hK K; refine hK _ ?_) | (clear hK K; clear hK K; clear hK K; clear hK K; refine hK _ ?_) | (clear hK K; clear hK K; clear hK K; clear hK K; clear hK K; refine hK _ ?_) | (clear hK K; clear hK K; clear hK K; clear hK K; clear hK K; clear hK K; refine hK _ ?_)); clear hK; clear K)
    | refine And.intro (by first | assumption | omega | trivial | rfl | (simp; done)) ?_
    | (refine awp_cond _ rfl (fun hc => ?_) (fun hc => ?_) <;> (try simp only [Bool.not_eq_true', Bool.not_eq_false'] at hc) <;> (try simp only [hc]))
    | (refine gdW_split (fun hc => ?_) (fun hc => ?_) <;> (try simp only [Bool.not_eq_true', Bool.not_eq_false'] at hc))
    | (refine gdQ_split (fun hc => ?_) (fun hc => ?_) <;> (try simp only [Bool.not_eq_true', Bool.not_eq_false'] at hc)))
  all_goals
    first | refine end_quiet hB rfl ?_ (by simp) | refine end_quiet0 rfl ?_
    try clear hB hA
    try simp only [go_sem, colB, *, Bool.true_and, Bool.and_true, Bool.false_and, Bool.and_false, Bool.or_true, Bool.true_or, Bool.false_or, Bool.or_false]

theorem idxOf_cons {α : Type} (p : α → Bool) (x : α) (l : List α) : idxOf p (x :: l) = if p x = true then 0 else (if 0 ≤ idxOf p l then idxOf p l + 1 else -1) := by
  unfold idxOf
  rw [List.findIdx_cons]
  cases hp : p x with
  | true => simp
  | false =>
    by_cases hl : l.findIdx p < l.length
    · have : 0 ≤ (l.findIdx p : Int) := Int.natCast_nonneg _
      simp [hl, this]
    · simp [hl]

theorem idxOf_ge {α : Type} (p : α → Bool) (l : List α) : -1 ≤ idxOf p l := by
  unfold idxOf
  split <;> omega

theorem idxOf_take {α : Type} {p : α → Bool} : ∀ {l : List α} {i : Nat} {a : α}, l[i]? = some a → p a = true → (idxOf p l == (i : Int)) = !decide (0 ≤ idxOf p (l.take i))
  | [], i, a, ha, _ => by simp at ha
  | x :: l, 0, a, ha, hp => by
    simp only [List.getElem?_cons_zero, Option.some.injEq] at ha
    subst ha
    rw [idxOf_cons, if_pos hp]
    simp [idxOf]
  | x :: l, i + 1, a, ha, hp => by
    have ih := idxOf_take (l := l) (i := i) (a := a) (by simpa using ha) hp
    rw [List.take_succ_cons, idxOf_cons, idxOf_cons]
    cases hx : p x with
    | true =>
      simp only [if_true]
      have : ((0 : Int) == ((i + 1 : Nat) : Int)) = false := by simp; omega
      rw [this]
      simp
    | false =>
      simp only [Bool.false_eq_true, if_false]
      have h1 := idxOf_ge p l
      have h2 := idxOf_ge p (l.take i)
      by_cases h0 : 0 ≤ idxOf p l
      · rw [if_pos h0]
        by_cases h3 : 0 ≤ idxOf p (l.take i)
        · rw [if_pos h3]
          have h4 : (idxOf p l == (i : Int)) = false := by rw [ih]; simp [h3]
          have h5 : ((idxOf p l + 1) == ((i + 1 : Nat) : Int)) = false := by
            simp only [beq_eq_false_iff_ne, ne_eq] at h4 ⊢
            omega
          have h6 : (0 : Int) ≤ idxOf p (l.take i) + 1 := by omega
          rw [h5]
          simp [h6]
        · rw [if_neg h3]
          have h4 : (idxOf p l == (i : Int)) = true := by rw [ih]; simp [h3]
          have h5 : ((idxOf p l + 1) == ((i + 1 : Nat) : Int)) = true := by
            simp only [beq_iff_eq] at h4 ⊢
            omega
          rw [h5]
          simp
      · rw [if_neg h0]
        have h4 : (idxOf p l == (i : Int)) = false := by simp only [beq_eq_false_iff_ne, ne_eq]; omega
        have h3 : 0 ≤ idxOf p (l.take i) := by
          rw [h4] at ih
          simpa using ih
        rw [if_pos h3]
        have h5 : ((-1 : Int) == ((i + 1 : Nat) : Int)) = false := by simp only [beq_eq_false_iff_ne, ne_eq]; omega
        have h6 : (0 : Int) ≤ idxOf p (l.take i) + 1 := by omega
        rw [h5]
        simp [h6]

theorem okCol_take {l : List ColR} {i : Nat} {a : ColR} (ha : l[i]? = some a) : okCol l i = (colB a && !decide (0 ≤ idxOf (fun d => d.name == a.name) (l.take i))) := by
  rw [okCol_at ha, idxOf_take ha (by simp)]

theorem refColumns_q (l : List ColR) (hl0 : ∀ c, c ∈ l → tx c.name) (hn : l.length ≤ 140737488351232) (H : List AObj) : QuietF Go.Proofs.Try.prog 39 [.fz (l.map ColR.av)] H (.bool (colsB l)) := by
  refine ACallF.of hb_39 (acalls_body Try.func39 rfl ?_)
  intro hB hA
  rw [args0_39]
  repeat' (first
    | ((with_reducible first | refine isWL ?_ | refine isGW ?_ | refine isWQ ?_ | refine isGQ ?_); (first | simp only [go_sem, Nat.reduceAdd, Nat.reduceMul, Nat.reduceLeDiff, Nat.reduceLT, Nat.reduceEqDiff, Int.reduceToNat, Int.reduceLE, Int.reduceLT, List.forall_mem_cons, List.not_mem_nil, false_implies, implies_true, List.length_map, hc] | simp only [go_sem, Nat.reduceAdd, Nat.reduceMul, Nat.reduceLeDiff, Nat.reduceLT, Nat.reduceEqDiff, Int.reduceToNat, Int.reduceLE, Int.reduceLT, List.forall_mem_cons, List.not_mem_nil, false_implies, implies_true, List.length_map]))
    | refine awp_seq_k (fun K hK => ?_)
    | refine awp_block ?_
    | refine awp_region_w (by first | (simp; done) | assumption | (simp; omega)) (fun Q hQ => ?_)
    | refine awp_region_q mixed (by kernel_rfl) (by kernel_rfl) rfl (by first | (simp; done) | assumption | (simp; omega)) (fun Q hQ => ?_)
    | refine Both.mk ?_ ?_
    | (refine hQ _ _ ?_; clear hQ Q)
    | (refine hQ _ ?_; clear hQ Q)
    | refine awp_cond_true rfl ?_
    | refine awp_cond_false rfl ?_
    | refine awp_skip ?_
    | (refine awp_exit ?_; simp only [go_sem, Nat.reduceEqDiff])
    | (refine awp_ret ?_; try simp only [inBlock_ret, andThen_ret])
    | ((first | refine hK _ ?_ | (clear hK K; refine hK _ ?_) | (clear hK K; clear hK K; refine hK _ ?_) | (clear hK K; clear hK K; clear hK K; refine hK _ ?_) | (clear hK K; clear hK K; clear hK K; clear hK K; refine hK _ ?_) | (clear hK K; clear hK K; clear hK K; clear hK K; clear hK K; refine hK _ ?_) | (clear hK K; clear hK K; clear hK K; clear hK K; clear hK K; clear hK K; refine hK _ ?_)); clear hK; clear K)
    | refine And.intro (by first | assumption | omega | trivial | rfl | (simp; done)) ?_
    | (refine awp_cond _ rfl (fun hc => ?_) (fun hc => ?_) <;> (try simp only [Bool.not_eq_true', Bool.not_eq_false'] at hc) <;> (try simp only [hc]))
    | (refine gdW_split (fun hc => ?_) (fun hc => ?_) <;> (try simp only [Bool.not_eq_true', Bool.not_eq_false'] at hc))
    | (refine gdQ_split (fun hc => ?_) (fun hc => ?_) <;> (try simp only [Bool.not_eq_true', Bool.not_eq_false'] at hc)))
  all_goals try
    (refine end_quiet0 rfl ?_
     simp only [look_zero, look_succ, colsB, *, Bool.not_true, Bool.not_false, Bool.false_and, Bool.and_false, Bool.true_and]
     done)
  have hval : colsB l = (List.range l.length).all (okCol l) := by simp only [colsB, *, Bool.not_false, Bool.true_and]
  repeat (first
    | ((with_reducible first | refine isWL ?_ | refine isGW ?_ | refine isWQ ?_ | refine isGQ ?_); simp only [go_sem, Nat.reduceAdd, Nat.reduceMul, Nat.reduceLeDiff, Nat.reduceLT, Nat.reduceEqDiff, Int.reduceToNat, Int.reduceLE, Int.reduceLT, List.forall_mem_cons, List.not_mem_nil, false_implies, implies_true])
    | refine awp_seq_k (fun K hK => ?_)
    | refine awp_block ?_
    | refine awp_region_w (by first | (simp; done) | assumption | (simp; omega)) (fun Q hQ => ?_)
    | refine awp_region_q mixed (by kernel_rfl) (by kernel_rfl) rfl (by first | (simp; done) | assumption | (simp; omega)) (fun Q hQ => ?_)
    | refine Both.mk ?_ ?_
    | (refine hQ _ _ ?_; clear hQ Q)
    | (refine hQ _ ?_; clear hQ Q)
    | refine awp_cond_true rfl ?_
    | refine awp_cond_false rfl ?_
    | refine awp_skip ?_
    | (refine awp_exit ?_; simp only [go_sem, Nat.reduceEqDiff])
    | (refine awp_ret ?_; try simp only [inBlock_ret, andThen_ret])
    | ((first | refine hK _ ?_ | (clear hK K; refine hK _ ?_) | (clear hK K; clear hK K; refine hK _ ?_) | (clear hK K; clear hK K; clear hK K; refine hK _ ?_) | (clear hK K; clear hK K; clear hK K; clear hK K; refine hK _ ?_) | (clear hK K; clear hK K; clear hK K; clear hK K; clear hK K; refine hK _ ?_) | (clear hK K; clear hK K; clear hK K; clear hK K; clear hK K; clear hK K; refine hK _ ?_)); clear hK; clear K)
    | refine And.intro (by first | assumption | omega | trivial | rfl | (simp; done)) ?_)
  refine awp_loop_at (fun T n S => ∃ (i : Nat) , (i ≤ (l).length ∧ ∀ j, j < i → okCol l j = true) ∧ n = (l).length - i ∧ S = ⟨setT T [(3, .int .i64 (i : Int)), (2, .junk), (12, .junk), (13, .junk), (14, .junk), (15, .junk), (16, .junk), (17, .junk), (18, .junk), (19, .junk), (20, .junk), (21, .junk), (22, .junk), (23, .junk), (24, .junk), (25, .junk), (26, .junk), (27, .junk), (28, .junk), (29, .junk), (30, .junk), (31, .junk), (32, .junk), (33, .junk), (34, .junk), (35, .junk)], H⟩) ?_ ?_
  · refine ⟨_, _, weak_junk ?_, 0, ⟨Nat.zero_le _, by omega⟩, rfl, rfl⟩
    simp only [go_sem]; simp [LeT]
  · rintro n S ⟨i, ⟨hi, hinv⟩, rfl, rfl⟩
    by_cases hlt : i < (l).length
    · have hw := wrap_succ hlt (by omega)
      have hd : decide (i < (l).length) = true := by simpa using hlt
      obtain ⟨a, ha⟩ : ∃ a, (l)[i]? = some a := ⟨_, List.getElem?_eq_getElem hlt⟩
      have hl := look_map (g := ColR.av) ha
      have hmem := List.mem_of_getElem? ha
      try rw [drop_cons ha] at hinv
      have hok := okCol_take ha
      have hcut : (l.map ColR.av).take i = (l.take i).map ColR.av := List.map_take.symm
      have hle : (l.take i).length ≤ 140737488351232 := by rw [List.length_take]; omega
      have hsz : ∀ y, y ∈ l.map ColR.av → y.cells.length = 3 := by
        intro y hy
        obtain ⟨c, _, rfl⟩ := List.mem_map.1 hy
        rfl
      have hil : i ≤ l.length := by omega
      repeat' (first
        | ((with_reducible first | refine isWL ?_ | refine isGW ?_ | refine isWQ ?_ | refine isGQ ?_); (first | simp only [go_sem, Nat.reduceAdd, Nat.reduceMul, Nat.reduceLeDiff, Nat.reduceLT, Nat.reduceEqDiff, Int.reduceToNat, Int.reduceLE, Int.reduceLT, List.forall_mem_cons, List.not_mem_nil, false_implies, implies_true, hd, hw, hl, hlt, hil, hcut, List.length_map, List.drop_zero, Nat.sub_zero, Nat.zero_le, hc] | simp only [go_sem, Nat.reduceAdd, Nat.reduceMul, Nat.reduceLeDiff, Nat.reduceLT, Nat.reduceEqDiff, Int.reduceToNat, Int.reduceLE, Int.reduceLT, List.forall_mem_cons, List.not_mem_nil, false_implies, implies_true, hd, hw, hl, hlt, hil, hcut, List.length_map, List.drop_zero, Nat.sub_zero, Nat.zero_le]))
        | refine awp_seq_k (fun K hK => ?_)
        | refine awp_block ?_
        | refine awp_region_w (by first | (simp; done) | assumption | (simp; omega)) (fun Q hQ => ?_)
        | refine awp_region_q mixed (by kernel_rfl) (by kernel_rfl) rfl (by first | (simp; done) | assumption | (simp; omega)) (fun Q hQ => ?_)
        | refine callW_quiet (refOne_q a (hl0 a hmem) _) ?_
        | refine callQ_quiet (refOne_q a (hl0 a hmem) _) ?_
        | refine callW_quiet (refColumn_q (l.take i) a.name hle _) ?_
        | refine callQ_quiet (refColumn_q (l.take i) a.name hle _) ?_
        | refine Both.mk ?_ ?_
        | (refine hQ _ _ ?_; clear hQ Q)
        | (refine hQ _ ?_; clear hQ Q)
        | refine awp_cond_true rfl ?_
        | refine awp_cond_false rfl ?_
        | refine awp_skip ?_
        | (refine awp_exit ?_; simp only [go_sem, Nat.reduceEqDiff])
        | (refine awp_ret ?_; try simp only [inBlock_ret, andThen_ret])
        | ((first | refine hK _ ?_ | (clear hK K; refine hK _ ?_) | (clear hK K; clear hK K; refine hK _ ?_) | (clear hK K; clear hK K; clear hK K; refine hK _ ?_) | (clear hK K; clear hK K; clear hK K; clear hK K; refine hK _ ?_) | (clear hK K; clear hK K; clear hK K; clear hK K; clear hK K; refine hK _ ?_) | (clear hK K; clear hK K; clear hK K; clear hK K; clear hK K; clear hK K; refine hK _ ?_)); clear hK; clear K)
        | refine And.intro (by first | assumption | omega | trivial | rfl | (simp; done) | (exact ⟨Nat.zero_le _, hil, hsz⟩)) ?_
        | (refine awp_cond _ rfl (fun hc => ?_) (fun hc => ?_) <;> (try simp only [Bool.not_eq_true', Bool.not_eq_false'] at hc) <;> (try simp only [hc]))
        | (refine gdW_split (fun hc => ?_) (fun hc => ?_) <;> (try simp only [Bool.not_eq_true', Bool.not_eq_false'] at hc))
        | (refine gdQ_split (fun hc => ?_) (fun hc => ?_) <;> (try simp only [Bool.not_eq_true', Bool.not_eq_false'] at hc)))
      all_goals try
        (refine end_quiet0 rfl ?_
         simp only [look_zero, look_succ]
         rw [hval, range_all_false hlt (by rw [hok]; simp only [*, Bool.not_true, Bool.not_false, Bool.false_and, Bool.and_false])]
         done)
      all_goals
        have hnext : ∀ j, j < i + 1 → okCol l j = true := by
          intro j hj
          rcases Nat.lt_or_ge j i with h | h
          · exact hinv j h
          · obtain rfl : j = i := by omega
            rw [hok]
            simp only [*, Bool.not_false, Bool.and_self]
        rw [andThen_normal]
        refine ⟨(l).length - (i + 1), by omega, _, ?_, i + 1, ⟨by omega, hnext⟩, rfl, rfl⟩
        first
          | (refine weak_junk ?_; (try simp only [go_sem]); simp [LeT]; done)
          | (simp only [go_sem, List.map_append, List.map_cons, List.map_nil, List.length_append, List.length_cons, List.length_nil, List.length_map, Nat.zero_add, List.append_assoc, List.cons_append, List.nil_append]; refine weak_junk ?_; simp [LeT]; done)
          | ((try simp only [go_sem, List.map_append, List.map_cons, List.map_nil, List.length_append, List.length_cons, List.length_nil, List.length_map, Nat.zero_add, List.append_assoc, List.cons_append, List.nil_append]); refine weak_cut _ (by first | rfl | (simp only [List.append_assoc, List.cons_append, List.nil_append]; rfl)) (by simp) (by simp [LeT]) (by simp) (by first | exact hB | (refine hB_app hB ?_; simp; done) | (refine hB_app hB ?_; simp [or_imp, forall_and]; done) | (refine hB_app hB ?_; simp; refine forall_set ?_ ?_ <;> simp; done)); done)
    · have hd : decide (i < (l).length) = false := by simpa using hlt
      have hnil : (l).drop i = [] := List.drop_eq_nil_of_le (by omega)
      try rw [hnil] at hinv
      repeat (first
        | ((with_reducible first | refine isWL ?_ | refine isGW ?_ | refine isWQ ?_ | refine isGQ ?_); simp only [go_sem, Nat.reduceAdd, Nat.reduceMul, Nat.reduceLeDiff, Nat.reduceLT, Nat.reduceEqDiff, Int.reduceToNat, Int.reduceLE, Int.reduceLT, List.forall_mem_cons, List.not_mem_nil, false_implies, implies_true, hd, List.length_map])
        | refine awp_seq_k (fun K hK => ?_)
        | refine awp_block ?_
        | refine awp_region_w (by first | (simp; done) | assumption | (simp; omega)) (fun Q hQ => ?_)
        | refine awp_region_q mixed (by kernel_rfl) (by kernel_rfl) rfl (by first | (simp; done) | assumption | (simp; omega)) (fun Q hQ => ?_)
        | refine Both.mk ?_ ?_
        | (refine hQ _ _ ?_; clear hQ Q)
        | (refine hQ _ ?_; clear hQ Q)
        | refine awp_cond_true rfl ?_
        | refine awp_cond_false rfl ?_
        | refine awp_skip ?_
        | (refine awp_exit ?_; simp only [go_sem, Nat.reduceEqDiff])
        | (refine awp_ret ?_; try simp only [inBlock_ret, andThen_ret])
        | ((first | refine hK _ ?_ | (clear hK K; refine hK _ ?_) | (clear hK K; clear hK K; refine hK _ ?_) | (clear hK K; clear hK K; clear hK K; refine hK _ ?_) | (clear hK K; clear hK K; clear hK K; clear hK K; refine hK _ ?_) | (clear hK K; clear hK K; clear hK K; clear hK K; clear hK K; refine hK _ ?_) | (clear hK K; clear hK K; clear hK K; clear hK K; clear hK K; clear hK K; refine hK _ ?_)); clear hK; clear K)
        | refine And.intro (by first | assumption | omega | trivial | rfl | (simp; done)) ?_)
      rw [hval, range_all_true (fun j hj => hinv j (by omega))]
      first | exact end_quiet0 rfl rfl | exact end_quiet hB rfl rfl (by simp)

end Go.Proofs.Ytamoclnnakdiaaa.Abs
