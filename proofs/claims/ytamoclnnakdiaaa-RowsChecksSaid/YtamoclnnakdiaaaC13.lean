/-
  Kinds of columns.
  Conditions: none.
-/
import Derived.Test.YtamoclnnakdiaaaC12
import Derived.Test.YtamoclnnakdiaaaA17
namespace Go.Proofs.Ytamoclnnakdiaaa.Abs
open Go Go.RowKit
set_option linter.unusedVariables false
set_option maxRecDepth 100000
set_option maxHeartbeats 4000000
set_option linter.unusedSimpArgs false

/-- The kinds of the columns that have these names. -/
def kindsL (l : List ColR) : List (List UInt8) → List Int
  | [] => []
  | s :: ns => if 0 ≤ idxOf (fun c => c.name == s) l then kindAt l (idxOf (fun c => c.name == s) l) :: kindsL l ns else kindsL l ns

theorem kinds_q (l : List ColR) (ns : List (List UInt8)) (hl : l.length ≤ 140737488351232) (hn : ns.length ≤ 10000000) (H : List AObj) :
    QuietF Go.Proofs.Try.prog 121 [.fz (l.map ColR.av), .fz (ns.map .str)] H (.fz ((kindsL l ns).map (AV.int .i64))) := by
  refine ACallF.of hb_121 (acalls_body Try.func121 rfl ?_)
  intro hB hA
  rw [args0_121]
  repeat (first
    | ((with_reducible first | refine isWL ?_ | refine isGW ?_ | refine isWQ ?_ | refine isGQ ?_); simp only [go_sem, Nat.reduceAdd, Nat.reduceMul, Nat.reduceLeDiff, Nat.reduceLT, Nat.reduceEqDiff, Int.reduceToNat, Int.reduceLE, Int.reduceLT, List.forall_mem_cons, List.not_mem_nil, false_implies, implies_true])
    | refine awp_seq_k (fun K hK => ?_)
    | refine awp_block ?_
    | refine awp_region_w (by first | (simp; done) | assumption | (simp; omega)) (fun Q hQ => ?_)
    | refine awp_region_q mixed (by kernel_rfl) (by kernel_rfl) rfl (by first | (simp; done) | assumption | (simp; omega)) (fun Q hQ => ?_)
    | refine Both.mk ?_ ?_
    | (refine hQ _ _ ?_; clear hQ Q)
    | (refine hQ _ ?_; clear hQ Q)
    | refine awp_cond_true rfl ?_
    | refine awp_cond_false rfl ?_
    | refine awp_skip ?_
    | (refine awp_exit ?_; simp only [go_sem, Nat.reduceEqDiff])
    | (refine awp_ret ?_; try simp only [inBlock_ret, andThen_ret])
    | ((first | refine hK _ ?_ | (clear hK K; refine hK _ ?_) | (clear hK K; clear hK K; refine hK _ ?_) | (clear hK K; clear hK K; clear hK K; refine hK _ ?_) | (clear hK K; clear hK K; clear hK K; clear hK K; refine hK _ ?_) | (clear hK K; clear hK K; clear hK K; clear hK K; clear hK K; refine hK _ ?_) | (clear hK K; clear hK K; clear hK K; clear hK K; clear hK K; clear hK K; refine hK _ ?_)); clear hK; clear K)
    | refine And.intro (by first | assumption | omega | trivial | rfl | (simp; done)) ?_)
  refine awp_loop_at (fun T n S => ∃ (i : Nat) (acc : List Int) (g : Nat), (i ≤ (ns).length ∧ acc ++ kindsL l (ns.drop i) = kindsL l ns ∧ acc.length ≤ i) ∧ n = (ns).length - i ∧ S = ⟨setT T [(11, .int .i64 (i : Int)), (5, .sl H.length g 0 acc.length), (7, .junk), (8, .junk), (12, .junk), (13, .junk), (14, .junk), (15, .junk), (16, .junk), (17, .junk), (18, .junk), (19, .junk), (20, .junk), (21, .junk), (22, .junk), (23, .junk), (24, .junk), (25, .junk), (26, .junk), (27, .junk), (28, .junk)], H ++ [.arr g 22 1 (acc.map (AV.int .i64))]⟩) ?_ ?_
  · refine ⟨_, _, weak_nil (22) (1) (H.length) (by simp) (by first | (simp; done) | (simp only [go_sem]; done) | (simp only [go_sem]; simp; done)) (by simp) ?_, 0, [], 0, ⟨Nat.zero_le _, by simp⟩, rfl, rfl⟩
    simp only [go_sem]; simp [NilT]
  · rintro n S ⟨i, acc, g, ⟨hi, hinv⟩, rfl, rfl⟩
    by_cases hlt : i < (ns).length
    · have hw := wrap_succ hlt (by omega)
      have hd : decide (i < (ns).length) = true := by simpa using hlt
      obtain ⟨a, ha⟩ : ∃ a, (ns)[i]? = some a := ⟨_, List.getElem?_eq_getElem hlt⟩
      have hl := look_map (g := AV.str) ha
      have hmem := List.mem_of_getElem? ha
      try rw [drop_cons ha] at hinv
      obtain ⟨hinv, hal⟩ := hinv
      by_cases hge : 0 ≤ idxOf (fun c => c.name == a) l
      · have hlt2 : idxOf (fun c => c.name == a) l < l.length := idxOf_lt
        obtain ⟨c, hc0⟩ : ∃ c, l[(idxOf (fun c => c.name == a) l).toNat]? = some c := ⟨_, List.getElem?_eq_getElem (by omega)⟩
        have hlk0 := look_map (g := ColR.av) hc0
        have hk : kindAt l (idxOf (fun c => c.name == a) l) = c.kind := by simp only [kindAt, hc0]
        have hdg : decide (0 ≤ idxOf (fun c => c.name == a) l) = true := by simpa using hge
        simp only [kindsL, hge, if_true, hk] at hinv
        repeat' (first
          | ((with_reducible first | refine isWL ?_ | refine isGW ?_ | refine isWQ ?_ | refine isGQ ?_); (first | simp only [go_sem, Nat.reduceAdd, Nat.reduceMul, Nat.reduceLeDiff, Nat.reduceLT, Nat.reduceEqDiff, Int.reduceToNat, Int.reduceLE, Int.reduceLT, List.forall_mem_cons, List.not_mem_nil, false_implies, implies_true, hd, hw, hl, hlt, hlk0, hge, hlt2, hdg, List.length_map, hc] | simp only [go_sem, Nat.reduceAdd, Nat.reduceMul, Nat.reduceLeDiff, Nat.reduceLT, Nat.reduceEqDiff, Int.reduceToNat, Int.reduceLE, Int.reduceLT, List.forall_mem_cons, List.not_mem_nil, false_implies, implies_true, hd, hw, hl, hlt, hlk0, hge, hlt2, hdg, List.length_map]))
          | refine awp_seq_k (fun K hK => ?_)
          | refine awp_block ?_
          | refine awp_region_w (by first | (simp; done) | assumption | (simp; omega)) (fun Q hQ => ?_)
          | refine awp_region_q mixed (by kernel_rfl) (by kernel_rfl) rfl (by first | (simp; done) | assumption | (simp; omega)) (fun Q hQ => ?_)
          | refine callW_quiet (byName_col l a (by assumption) _) ?_
          | refine callQ_quiet (byName_col l a (by assumption) _) ?_
          | refine Both.mk ?_ ?_
          | (refine hQ _ _ ?_; clear hQ Q)
          | (refine hQ _ ?_; clear hQ Q)
          | refine awp_cond_true rfl ?_
          | refine awp_cond_false rfl ?_
          | refine awp_skip ?_
          | (refine awp_exit ?_; simp only [go_sem, Nat.reduceEqDiff])
          | (refine awp_ret ?_; try simp only [inBlock_ret, andThen_ret])
          | ((first | refine hK _ ?_ | (clear hK K; refine hK _ ?_) | (clear hK K; clear hK K; refine hK _ ?_) | (clear hK K; clear hK K; clear hK K; refine hK _ ?_) | (clear hK K; clear hK K; clear hK K; clear hK K; refine hK _ ?_) | (clear hK K; clear hK K; clear hK K; clear hK K; clear hK K; refine hK _ ?_) | (clear hK K; clear hK K; clear hK K; clear hK K; clear hK K; clear hK K; refine hK _ ?_)); clear hK; clear K)
          | refine And.intro (by first | assumption | omega | trivial | rfl | (simp; done)) ?_
          | (refine awp_cond _ rfl (fun hc => ?_) (fun hc => ?_) <;> (try simp only [Bool.not_eq_true', Bool.not_eq_false'] at hc) <;> (try simp only [hc]))
          | (refine gdW_split (fun hc => ?_) (fun hc => ?_) <;> (try simp only [Bool.not_eq_true', Bool.not_eq_false'] at hc))
          | (refine gdQ_split (fun hc => ?_) (fun hc => ?_) <;> (try simp only [Bool.not_eq_true', Bool.not_eq_false'] at hc)))
        rw [andThen_normal]
        refine ⟨(ns).length - (i + 1), by omega, _, ?_, i + 1, acc ++ [c.kind], g + 1, ⟨by omega, ⟨by simpa using hinv, by simp; omega⟩⟩, rfl, rfl⟩
        first
          | (refine weak_junk ?_; (try simp only [go_sem]); simp [LeT]; done)
          | (simp only [go_sem, List.map_append, List.map_cons, List.map_nil, List.length_append, List.length_cons, List.length_nil, List.length_map, Nat.zero_add, List.append_assoc, List.cons_append, List.nil_append]; refine weak_junk ?_; simp [LeT]; done)
          | ((try simp only [go_sem, List.map_append, List.map_cons, List.map_nil, List.length_append, List.length_cons, List.length_nil, List.length_map, Nat.zero_add, List.append_assoc, List.cons_append, List.nil_append]); refine weak_cut _ (by first | rfl | (simp only [List.append_assoc, List.cons_append, List.nil_append]; rfl)) (by simp) (by simp [LeT]) (by simp) (by first | exact hB | (refine hB_app hB ?_; simp; done) | (refine hB_app hB ?_; simp [or_imp, forall_and]; done) | (refine hB_app hB ?_; simp; refine forall_set ?_ ?_ <;> simp; done)); done)
      · have hdg : decide (0 ≤ idxOf (fun c => c.name == a) l) = false := by simpa using hge
        simp only [kindsL, hge, if_false] at hinv
        repeat' (first
          | ((with_reducible first | refine isWL ?_ | refine isGW ?_ | refine isWQ ?_ | refine isGQ ?_); (first | simp only [go_sem, Nat.reduceAdd, Nat.reduceMul, Nat.reduceLeDiff, Nat.reduceLT, Nat.reduceEqDiff, Int.reduceToNat, Int.reduceLE, Int.reduceLT, List.forall_mem_cons, List.not_mem_nil, false_implies, implies_true, hd, hw, hl, hlt, hdg, hc] | simp only [go_sem, Nat.reduceAdd, Nat.reduceMul, Nat.reduceLeDiff, Nat.reduceLT, Nat.reduceEqDiff, Int.reduceToNat, Int.reduceLE, Int.reduceLT, List.forall_mem_cons, List.not_mem_nil, false_implies, implies_true, hd, hw, hl, hlt, hdg]))
          | refine awp_seq_k (fun K hK => ?_)
          | refine awp_block ?_
          | refine awp_region_w (by first | (simp; done) | assumption | (simp; omega)) (fun Q hQ => ?_)
          | refine awp_region_q mixed (by kernel_rfl) (by kernel_rfl) rfl (by first | (simp; done) | assumption | (simp; omega)) (fun Q hQ => ?_)
          | refine callW_quiet (byName_col l a (by assumption) _) ?_
          | refine callQ_quiet (byName_col l a (by assumption) _) ?_
          | refine Both.mk ?_ ?_
          | (refine hQ _ _ ?_; clear hQ Q)
          | (refine hQ _ ?_; clear hQ Q)
          | refine awp_cond_true rfl ?_
          | refine awp_cond_false rfl ?_
          | refine awp_skip ?_
          | (refine awp_exit ?_; simp only [go_sem, Nat.reduceEqDiff])
          | (refine awp_ret ?_; try simp only [inBlock_ret, andThen_ret])
          | ((first | refine hK _ ?_ | (clear hK K; refine hK _ ?_) | (clear hK K; clear hK K; refine hK _ ?_) | (clear hK K; clear hK K; clear hK K; refine hK _ ?_) | (clear hK K; clear hK K; clear hK K; clear hK K; refine hK _ ?_) | (clear hK K; clear hK K; clear hK K; clear hK K; clear hK K; refine hK _ ?_) | (clear hK K; clear hK K; clear hK K; clear hK K; clear hK K; clear hK K; refine hK _ ?_)); clear hK; clear K)
          | refine And.intro (by first | assumption | omega | trivial | rfl | (simp; done)) ?_
          | (refine awp_cond _ rfl (fun hc => ?_) (fun hc => ?_) <;> (try simp only [Bool.not_eq_true', Bool.not_eq_false'] at hc) <;> (try simp only [hc]))
          | (refine gdW_split (fun hc => ?_) (fun hc => ?_) <;> (try simp only [Bool.not_eq_true', Bool.not_eq_false'] at hc))
          | (refine gdQ_split (fun hc => ?_) (fun hc => ?_) <;> (try simp only [Bool.not_eq_true', Bool.not_eq_false'] at hc)))
        rw [andThen_normal]
        refine ⟨(ns).length - (i + 1), by omega, _, ?_, i + 1, acc, g, ⟨by omega, ⟨hinv, by omega⟩⟩, rfl, rfl⟩
        first
          | (refine weak_junk ?_; (try simp only [go_sem]); simp [LeT]; done)
          | (simp only [go_sem, List.map_append, List.map_cons, List.map_nil, List.length_append, List.length_cons, List.length_nil, List.length_map, Nat.zero_add, List.append_assoc, List.cons_append, List.nil_append]; refine weak_junk ?_; simp [LeT]; done)
          | ((try simp only [go_sem, List.map_append, List.map_cons, List.map_nil, List.length_append, List.length_cons, List.length_nil, List.length_map, Nat.zero_add, List.append_assoc, List.cons_append, List.nil_append]); refine weak_cut _ (by first | rfl | (simp only [List.append_assoc, List.cons_append, List.nil_append]; rfl)) (by simp) (by simp [LeT]) (by simp) (by first | exact hB | (refine hB_app hB ?_; simp; done) | (refine hB_app hB ?_; simp [or_imp, forall_and]; done) | (refine hB_app hB ?_; simp; refine forall_set ?_ ?_ <;> simp; done)); done)
    · have hd : decide (i < (ns).length) = false := by simpa using hlt
      have hnil : (ns).drop i = [] := List.drop_eq_nil_of_le (by omega)
      try rw [hnil] at hinv
      repeat (first
        | ((with_reducible first | refine isWL ?_ | refine isGW ?_ | refine isWQ ?_ | refine isGQ ?_); simp only [go_sem, Nat.reduceAdd, Nat.reduceMul, Nat.reduceLeDiff, Nat.reduceLT, Nat.reduceEqDiff, Int.reduceToNat, Int.reduceLE, Int.reduceLT, List.forall_mem_cons, List.not_mem_nil, false_implies, implies_true, hd])
        | refine awp_seq_k (fun K hK => ?_)
        | refine awp_block ?_
        | refine awp_region_w (by first | (simp; done) | assumption | (simp; omega)) (fun Q hQ => ?_)
        | refine awp_region_q mixed (by kernel_rfl) (by kernel_rfl) rfl (by first | (simp; done) | assumption | (simp; omega)) (fun Q hQ => ?_)
        | refine Both.mk ?_ ?_
        | (refine hQ _ _ ?_; clear hQ Q)
        | (refine hQ _ ?_; clear hQ Q)
        | refine awp_cond_true rfl ?_
        | refine awp_cond_false rfl ?_
        | refine awp_skip ?_
        | (refine awp_exit ?_; simp only [go_sem, Nat.reduceEqDiff])
        | (refine awp_ret ?_; try simp only [inBlock_ret, andThen_ret])
        | ((first | refine hK _ ?_ | (clear hK K; refine hK _ ?_) | (clear hK K; clear hK K; refine hK _ ?_) | (clear hK K; clear hK K; clear hK K; refine hK _ ?_) | (clear hK K; clear hK K; clear hK K; clear hK K; refine hK _ ?_) | (clear hK K; clear hK K; clear hK K; clear hK K; clear hK K; refine hK _ ?_) | (clear hK K; clear hK K; clear hK K; clear hK K; clear hK K; clear hK K; refine hK _ ?_)); clear hK; clear K)
        | refine And.intro (by first | assumption | omega | trivial | rfl | (simp; done)) ?_)
      obtain ⟨hinv, hal⟩ := hinv
      simp only [kindsL, List.append_nil] at hinv
      subst hinv
      exact end_frz hB rfl rfl (frz_all (by simp)) (by simp)

end Go.Proofs.Ytamoclnnakdiaaa.Abs
