/-
  Columns and rules that may be.
  Conditions: none.
-/
import Derived.Test.YtamoclnnakdiaaaC7
namespace Go.Proofs.Ytamoclnnakdiaaa.Abs
open Go Go.RowKit
set_option linter.unusedVariables false
set_option maxRecDepth 100000
set_option maxHeartbeats 4000000
set_option linter.unusedSimpArgs false

theorem range_all_true {n : Nat} {f : Nat → Bool} (h : ∀ j, j < n → f j = true) : (List.range n).all f = true := by
  rw [List.all_eq_true]
  intro j hj
  exact h j (List.mem_range.1 hj)
theorem range_all_false {n i : Nat} {f : Nat → Bool} (hi : i < n) (h : f i = false) : (List.range n).all f = false := by
  rw [List.all_eq_false]
  exact ⟨i, List.mem_range.2 hi, by simp [h]⟩

def okCol (l : List ColR) (j : Nat) : Bool :=
  match l[j]? with
  | some c => colB c && (idxOf (fun d => d.name == c.name) l == (j : Int))
  | none => true
theorem okCol_at {l : List ColR} {j : Nat} {c : ColR} (h : l[j]? = some c) : okCol l j = (colB c && (idxOf (fun d => d.name == c.name) l == (j : Int))) := by
  unfold okCol
  rw [h]

def colsB (l : List ColR) : Bool := (!decide ((l.length : Int) < 1)) && (!decide (8 < (l.length : Int))) && (List.range l.length).all (okCol l)

theorem mayColumns_q (l : List ColR) (hl : ∀ c, c ∈ l → tx c.name) (hn : l.length ≤ 140737488351232) (H : List AObj) : QuietF Go.Proofs.Try.prog 95 [.fz (l.map ColR.av)] H (.bool (colsB l)) := by
  refine ACallF.of hb_95 (acalls_body Try.func95 rfl ?_)
  intro hB hA
  rw [args0_95]
  repeat' (first
    | ((with_reducible first | refine isWL ?_ | refine isGW ?_ | refine isWQ ?_ | refine isGQ ?_); (first | simp only [go_sem, Nat.reduceAdd, Nat.reduceMul, Nat.reduceLeDiff, Nat.reduceLT, Nat.reduceEqDiff, Int.reduceToNat, Int.reduceLE, Int.reduceLT, List.forall_mem_cons, List.not_mem_nil, false_implies, implies_true, hc] | simp only [go_sem, Nat.reduceAdd, Nat.reduceMul, Nat.reduceLeDiff, Nat.reduceLT, Nat.reduceEqDiff, Int.reduceToNat, Int.reduceLE, Int.reduceLT, List.forall_mem_cons, List.not_mem_nil, false_implies, implies_true]))
    | refine awp_seq_k (fun K hK => ?_)
    | refine awp_block ?_
    | refine awp_region_w (by first | (simp; done) | assumption | (simp; omega)) (fun Q hQ => ?_)
    | refine awp_region_q mixed (by kernel_rfl) (by kernel_rfl) rfl (by first | (simp; done) | assumption | (simp; omega)) (fun Q hQ => ?_)
    | refine Both.mk ?_ ?_
    | (refine hQ _ _ ?_; clear hQ Q)
    | (refine hQ _ ?_; clear hQ Q)
    | refine awp_cond_true rfl ?_
    | refine awp_cond_false rfl ?_
    | refine awp_skip ?_
    | (refine awp_exit ?_; simp only [go_sem, Nat.reduceEqDiff])
    | (refine awp_ret ?_; try simp only [inBlock_ret, andThen_ret])
    | ((first | refine hK _ ?_ | (clear hK K; refine hK _ ?_) | (clear hK K; clear hK K; refine hK _ ?_) | (clear hK K; clear hK K; clear hK K; refine hK _ ?_) | (clear hK K; clear hK K; clear hK K; clear hK K; refine hK _ ?_) | (clear hK K; clear hK K; clear hK K; clear hK K; clear hK K; refine hK _ ?_) | (clear hK K; clear hK K; clear hK K; clear hK K; clear hK K; clear hK K; refine hK _ ?_)); clear hK; clear K)
    | refine And.intro (by first | assumption | omega | trivial | rfl | (simp; done)) ?_
    | (refine awp_cond _ rfl (fun hc => ?_) (fun hc => ?_) <;> (try simp only [Bool.not_eq_true', Bool.not_eq_false'] at hc) <;> (try simp only [hc]))
    | (refine gdW_split (fun hc => ?_) (fun hc => ?_) <;> (try simp only [Bool.not_eq_true', Bool.not_eq_false'] at hc))
    | (refine gdQ_split (fun hc => ?_) (fun hc => ?_) <;> (try simp only [Bool.not_eq_true', Bool.not_eq_false'] at hc)))
  rotate_left
  · repeat (first
      | ((with_reducible first | refine isWL ?_ | refine isGW ?_ | refine isWQ ?_ | refine isGQ ?_); simp only [go_sem, Nat.reduceAdd, Nat.reduceMul, Nat.reduceLeDiff, Nat.reduceLT, Nat.reduceEqDiff, Int.reduceToNat, Int.reduceLE, Int.reduceLT, List.forall_mem_cons, List.not_mem_nil, false_implies, implies_true])
      | refine awp_seq_k (fun K hK => ?_)
      | refine awp_block ?_
      | refine awp_region_w (by first | (simp; done) | assumption | (simp; omega)) (fun Q hQ => ?_)
      | refine awp_region_q mixed (by kernel_rfl) (by kernel_rfl) rfl (by first | (simp; done) | assumption | (simp; omega)) (fun Q hQ => ?_)
      | refine Both.mk ?_ ?_
      | (refine hQ _ _ ?_; clear hQ Q)
      | (refine hQ _ ?_; clear hQ Q)
      | refine awp_cond_true rfl ?_
      | refine awp_cond_false rfl ?_
      | refine awp_skip ?_
      | (refine awp_exit ?_; simp only [go_sem, Nat.reduceEqDiff])
      | (refine awp_ret ?_; try simp only [inBlock_ret, andThen_ret])
      | ((first | refine hK _ ?_ | (clear hK K; refine hK _ ?_) | (clear hK K; clear hK K; refine hK _ ?_) | (clear hK K; clear hK K; clear hK K; refine hK _ ?_) | (clear hK K; clear hK K; clear hK K; clear hK K; refine hK _ ?_) | (clear hK K; clear hK K; clear hK K; clear hK K; clear hK K; refine hK _ ?_) | (clear hK K; clear hK K; clear hK K; clear hK K; clear hK K; clear hK K; refine hK _ ?_)); clear hK; clear K)
      | refine And.intro (by first | assumption | omega | trivial | rfl | (simp; done)) ?_)
    refine awp_loop (fun n S => ∃ i : Nat, i ≤ l.length ∧ n = l.length - i ∧ (∀ j, j < i → okCol l j = true) ∧
        S = ⟨[.fz (l.map ColR.av), .junk, .bool false, .junk, .junk, .junk, .junk, .junk, .junk, .junk, .junk, .junk, .junk, .fz (l.map ColR.av), .int .i64 l.length, .int .i64 (i : Int), .junk, .junk, .junk, .junk, .junk, .junk, .junk, .junk, .junk, .junk, .junk, .junk, .junk, .junk, .junk, .junk], H⟩) ?_ ?_
    · refine ⟨_, _, weak_junk ?_, 0, Nat.zero_le _, rfl, by omega, rfl⟩
      simp [LeT]
    · rintro n S ⟨i, hi, rfl, hall, rfl⟩
      by_cases hlt : i < l.length
      · have hw := wrap_succ hlt (by omega)
        have hd : (decide (i < l.length)) = true := by simpa using hlt
        obtain ⟨a, ha⟩ : ∃ a, l[i]? = some a := ⟨l[i], List.getElem?_eq_getElem hlt⟩
        have hlk := look_map (g := ColR.av) ha
        have hok := okCol_at ha
        repeat' (first
          | ((with_reducible first | refine isWL ?_ | refine isGW ?_ | refine isWQ ?_ | refine isGQ ?_); (first | simp only [go_sem, Nat.reduceAdd, Nat.reduceMul, Nat.reduceLeDiff, Nat.reduceLT, Nat.reduceEqDiff, Int.reduceToNat, Int.reduceLE, Int.reduceLT, List.forall_mem_cons, List.not_mem_nil, false_implies, implies_true, hd, hw, hlk, hlt, hc] | simp only [go_sem, Nat.reduceAdd, Nat.reduceMul, Nat.reduceLeDiff, Nat.reduceLT, Nat.reduceEqDiff, Int.reduceToNat, Int.reduceLE, Int.reduceLT, List.forall_mem_cons, List.not_mem_nil, false_implies, implies_true, hd, hw, hlk, hlt]))
          | refine awp_seq_k (fun K hK => ?_)
          | refine awp_block ?_
          | refine awp_region_w (by first | (simp; done) | assumption | (simp; omega)) (fun Q hQ => ?_)
          | refine awp_region_q mixed (by kernel_rfl) (by kernel_rfl) rfl (by first | (simp; done) | assumption | (simp; omega)) (fun Q hQ => ?_)
          | refine callW_quiet (mayColumn_q a (hl a (List.mem_of_getElem? ha)) _) ?_
          | refine callQ_quiet (mayColumn_q a (hl a (List.mem_of_getElem? ha)) _) ?_
          | refine callW_quiet (byName_col l a.name hn _) ?_
          | refine callQ_quiet (byName_col l a.name hn _) ?_
          | refine Both.mk ?_ ?_
          | (refine hQ _ _ ?_; clear hQ Q)
          | (refine hQ _ ?_; clear hQ Q)
          | refine awp_cond_true rfl ?_
          | refine awp_cond_false rfl ?_
          | refine awp_skip ?_
          | (refine awp_exit ?_; simp only [go_sem, Nat.reduceEqDiff])
          | (refine awp_ret ?_; try simp only [inBlock_ret, andThen_ret])
          | ((first | refine hK _ ?_ | (clear hK K; refine hK _ ?_) | (clear hK K; clear hK K; refine hK _ ?_) | (clear hK K; clear hK K; clear hK K; refine hK _ ?_) | (clear hK K; clear hK K; clear hK K; clear hK K; refine hK _ ?_) | (clear hK K; clear hK K; clear hK K; clear hK K; clear hK K; refine hK _ ?_) | (clear hK K; clear hK K; clear hK K; clear hK K; clear hK K; clear hK K; refine hK _ ?_)); clear hK; clear K)
          | refine And.intro (by first | assumption | omega | trivial | rfl | (simp; done)) ?_
          | (refine awp_cond _ rfl (fun hc => ?_) (fun hc => ?_) <;> (try simp only [Bool.not_eq_true', Bool.not_eq_false'] at hc) <;> (try simp only [hc]))
          | (refine gdW_split (fun hc => ?_) (fun hc => ?_) <;> (try simp only [Bool.not_eq_true', Bool.not_eq_false'] at hc))
          | (refine gdQ_split (fun hc => ?_) (fun hc => ?_) <;> (try simp only [Bool.not_eq_true', Bool.not_eq_false'] at hc)))
        all_goals first
          | (rw [andThen_normal]
             refine ⟨l.length - (i + 1), by omega, _, weak_trunc (Nat.le_refl _) ?_ ?_ hB, i + 1, by omega, rfl, ?_, rfl⟩
             · simp [LeT]
             · simp
             · intro j hj
               rcases Nat.lt_or_ge j i with h | h
               · exact hall j h
               · obtain rfl : j = i := by omega
                 rw [hok]
                 simp only [*, Bool.and_self])
          | (have hx : (List.range l.length).all (okCol l) = false := range_all_false hlt (by rw [hok]; simp only [*, Bool.and_false, Bool.false_and])
             refine end_quiet hB rfl ?_ (by simp)
             simp only [go_sem, colsB, hx, Bool.and_false])
      · have hd : decide (i < l.length) = false := by simpa using hlt
        repeat (first
          | ((with_reducible first | refine isWL ?_ | refine isGW ?_ | refine isWQ ?_ | refine isGQ ?_); simp only [go_sem, Nat.reduceAdd, Nat.reduceMul, Nat.reduceLeDiff, Nat.reduceLT, Nat.reduceEqDiff, Int.reduceToNat, Int.reduceLE, Int.reduceLT, List.forall_mem_cons, List.not_mem_nil, false_implies, implies_true, hd])
          | refine awp_seq_k (fun K hK => ?_)
          | refine awp_block ?_
          | refine awp_region_w (by first | (simp; done) | assumption | (simp; omega)) (fun Q hQ => ?_)
          | refine awp_region_q mixed (by kernel_rfl) (by kernel_rfl) rfl (by first | (simp; done) | assumption | (simp; omega)) (fun Q hQ => ?_)
          | refine Both.mk ?_ ?_
          | (refine hQ _ _ ?_; clear hQ Q)
          | (refine hQ _ ?_; clear hQ Q)
          | refine awp_cond_true rfl ?_
          | refine awp_cond_false rfl ?_
          | refine awp_skip ?_
          | (refine awp_exit ?_; simp only [go_sem, Nat.reduceEqDiff])
          | (refine awp_ret ?_; try simp only [inBlock_ret, andThen_ret])
          | ((first | refine hK _ ?_ | (clear hK K; refine hK _ ?_) | (clear hK K; clear hK K; refine hK _ ?_) | (clear hK K; clear hK K; clear hK K; refine hK _ ?_) | (clear hK K; clear hK K; clear hK K; clear hK K; refine hK _ ?_) | (clear hK K; clear hK K; clear hK K; clear hK K; clear hK K; refine hK _ ?_) | (clear hK K; clear hK K; clear hK K; clear hK K; clear hK K; clear hK K; refine hK _ ?_)); clear hK; clear K)
          | refine And.intro (by first | assumption | omega | trivial | rfl | (simp; done)) ?_)
        have hx : (List.range l.length).all (okCol l) = true := range_all_true (fun j hj => hall j (by omega))
        all_goals
          first | refine end_quiet hB rfl ?_ (by simp) | refine end_quiet0 rfl ?_
          try clear hB hA
          try simp only [go_sem, colsB, hx, Bool.not_true, Bool.not_false, *, Bool.true_and, Bool.and_true, Bool.false_and, Bool.and_false, Bool.or_true, Bool.true_or, Bool.false_or, Bool.or_false]
  all_goals
    first | refine end_quiet hB rfl ?_ (by simp) | refine end_quiet0 rfl ?_
    try clear hB hA
    try simp only [go_sem, colsB, Bool.not_true, Bool.not_false, *, Bool.true_and, Bool.and_true, Bool.false_and, Bool.and_false, Bool.or_true, Bool.true_or, Bool.false_or, Bool.or_false]

theorem index_str (xs : List (List UInt8)) (s : List UInt8) (H : List AObj) (hn : xs.length ≤ 140737488351232) :
    QuietF Go.Proofs.Try.prog 118 [.fz (xs.map .str), .str s] H (.int .i64 (idxOf (fun t => s == t) xs)) := by
  refine ACallF.of hb_118 (acalls_body Try.func118 rfl ?_)
  intro hB hA
  rw [args0_118]
  repeat (first
    | ((with_reducible first | refine isWL ?_ | refine isGW ?_ | refine isWQ ?_ | refine isGQ ?_); simp only [go_sem, Nat.reduceAdd, Nat.reduceMul, Nat.reduceLeDiff, Nat.reduceLT, Nat.reduceEqDiff, Int.reduceToNat, Int.reduceLE, Int.reduceLT, List.forall_mem_cons, List.not_mem_nil, false_implies, implies_true])
    | refine awp_seq_k (fun K hK => ?_)
    | refine awp_block ?_
    | refine awp_region_w (by first | (simp; done) | assumption | (simp; omega)) (fun Q hQ => ?_)
    | refine awp_region_q mixed (by kernel_rfl) (by kernel_rfl) rfl (by first | (simp; done) | assumption | (simp; omega)) (fun Q hQ => ?_)
    | refine Both.mk ?_ ?_
    | (refine hQ _ _ ?_; clear hQ Q)
    | (refine hQ _ ?_; clear hQ Q)
    | refine awp_cond_true rfl ?_
    | refine awp_cond_false rfl ?_
    | refine awp_skip ?_
    | (refine awp_exit ?_; simp only [go_sem, Nat.reduceEqDiff])
    | (refine awp_ret ?_; try simp only [inBlock_ret, andThen_ret])
    | ((first | refine hK _ ?_ | (clear hK K; refine hK _ ?_) | (clear hK K; clear hK K; refine hK _ ?_) | (clear hK K; clear hK K; clear hK K; refine hK _ ?_) | (clear hK K; clear hK K; clear hK K; clear hK K; refine hK _ ?_) | (clear hK K; clear hK K; clear hK K; clear hK K; clear hK K; refine hK _ ?_) | (clear hK K; clear hK K; clear hK K; clear hK K; clear hK K; clear hK K; refine hK _ ?_)); clear hK; clear K)
    | refine And.intro (by first | assumption | omega | trivial | rfl | (simp; done)) ?_)
  refine awp_loop (fun n S => ∃ i : Nat, i ≤ xs.length ∧ n = xs.length - i ∧ (∀ (j : Nat) (b : List UInt8), j < i → xs[j]? = some b → (s == b) = false) ∧
      S = ⟨[.fz (xs.map .str), .str s, .junk, .junk, .junk, .junk, .junk, .int .i64 xs.length, .int .i64 (i : Int), .junk, .junk, .junk, .junk, .junk, .junk, .junk, .junk, .junk, .junk], H⟩) ?_ ?_
  · refine ⟨_, _, weak_junk ?_, 0, Nat.zero_le _, rfl, by omega, rfl⟩
    simp [LeT]
  · rintro n S ⟨i, hi, rfl, hall, rfl⟩
    by_cases hlt : i < xs.length
    · have hw := wrap_succ hlt (by omega)
      have hd : (decide (i < xs.length)) = true := by simpa using hlt
      obtain ⟨a, ha⟩ : ∃ a, xs[i]? = some a := ⟨xs[i], List.getElem?_eq_getElem hlt⟩
      have hl := look_map (g := AV.str) ha
      repeat' (first
        | ((with_reducible first | refine isWL ?_ | refine isGW ?_ | refine isWQ ?_ | refine isGQ ?_); (first | simp only [go_sem, Nat.reduceAdd, Nat.reduceMul, Nat.reduceLeDiff, Nat.reduceLT, Nat.reduceEqDiff, Int.reduceToNat, Int.reduceLE, Int.reduceLT, List.forall_mem_cons, List.not_mem_nil, false_implies, implies_true, hd, hw, hl, hlt, hc] | simp only [go_sem, Nat.reduceAdd, Nat.reduceMul, Nat.reduceLeDiff, Nat.reduceLT, Nat.reduceEqDiff, Int.reduceToNat, Int.reduceLE, Int.reduceLT, List.forall_mem_cons, List.not_mem_nil, false_implies, implies_true, hd, hw, hl, hlt]))
        | refine awp_seq_k (fun K hK => ?_)
        | refine awp_block ?_
        | refine awp_region_w (by first | (simp; done) | assumption | (simp; omega)) (fun Q hQ => ?_)
        | refine awp_region_q mixed (by kernel_rfl) (by kernel_rfl) rfl (by first | (simp; done) | assumption | (simp; omega)) (fun Q hQ => ?_)
        | refine Both.mk ?_ ?_
        | (refine hQ _ _ ?_; clear hQ Q)
        | (refine hQ _ ?_; clear hQ Q)
        | refine awp_cond_true rfl ?_
        | refine awp_cond_false rfl ?_
        | refine awp_skip ?_
        | (refine awp_exit ?_; simp only [go_sem, Nat.reduceEqDiff])
        | (refine awp_ret ?_; try simp only [inBlock_ret, andThen_ret])
        | ((first | refine hK _ ?_ | (clear hK K; refine hK _ ?_) | (clear hK K; clear hK K; refine hK _ ?_) | (clear hK K; clear hK K; clear hK K; refine hK _ ?_) | (clear hK K; clear hK K; clear hK K; clear hK K; refine hK _ ?_) | (clear hK K; clear hK K; clear hK K; clear hK K; clear hK K; refine hK _ ?_) | (clear hK K; clear hK K; clear hK K; clear hK K; clear hK K; clear hK K; refine hK _ ?_)); clear hK; clear K)
        | refine And.intro (by first | assumption | omega | trivial | rfl | (simp; done)) ?_
        | (refine awp_cond _ rfl (fun hc => ?_) (fun hc => ?_) <;> (try simp only [Bool.not_eq_true', Bool.not_eq_false'] at hc) <;> (try simp only [hc]))
        | (refine gdW_split (fun hc => ?_) (fun hc => ?_) <;> (try simp only [Bool.not_eq_true', Bool.not_eq_false'] at hc))
        | (refine gdQ_split (fun hc => ?_) (fun hc => ?_) <;> (try simp only [Bool.not_eq_true', Bool.not_eq_false'] at hc)))
      · rw [idxOf_at ha hall (by assumption)]
        exact end_quiet0 rfl rfl
      · rw [andThen_normal]
        refine ⟨xs.length - (i + 1), by omega, _, weak_junk ?_, i + 1, by omega, rfl, ?_, rfl⟩
        · simp [LeT]
        · intro j b hj hb
          rcases Nat.lt_or_ge j i with h | h
          · exact hall j b h hb
          · obtain rfl : j = i := by omega
            rw [ha] at hb
            cases hb
            assumption
    · have hd : decide (i < xs.length) = false := by simpa using hlt
      repeat (first
        | ((with_reducible first | refine isWL ?_ | refine isGW ?_ | refine isWQ ?_ | refine isGQ ?_); simp only [go_sem, Nat.reduceAdd, Nat.reduceMul, Nat.reduceLeDiff, Nat.reduceLT, Nat.reduceEqDiff, Int.reduceToNat, Int.reduceLE, Int.reduceLT, List.forall_mem_cons, List.not_mem_nil, false_implies, implies_true, hd])
        | refine awp_seq_k (fun K hK => ?_)
        | refine awp_block ?_
        | refine awp_region_w (by first | (simp; done) | assumption | (simp; omega)) (fun Q hQ => ?_)
        | refine awp_region_q mixed (by kernel_rfl) (by kernel_rfl) rfl (by first | (simp; done) | assumption | (simp; omega)) (fun Q hQ => ?_)
        | refine Both.mk ?_ ?_
        | (refine hQ _ _ ?_; clear hQ Q)
        | (refine hQ _ ?_; clear hQ Q)
        | refine awp_cond_true rfl ?_
        | refine awp_cond_false rfl ?_
        | refine awp_skip ?_
        | (refine awp_exit ?_; simp only [go_sem, Nat.reduceEqDiff])
        | (refine awp_ret ?_; try simp only [inBlock_ret, andThen_ret])
        | ((first | refine hK _ ?_ | (clear hK K; refine hK _ ?_) | (clear hK K; clear hK K; refine hK _ ?_) | (clear hK K; clear hK K; clear hK K; refine hK _ ?_) | (clear hK K; clear hK K; clear hK K; clear hK K; refine hK _ ?_) | (clear hK K; clear hK K; clear hK K; clear hK K; clear hK K; refine hK _ ?_) | (clear hK K; clear hK K; clear hK K; clear hK K; clear hK K; clear hK K; refine hK _ ?_)); clear hK; clear K)
        | refine And.intro (by first | assumption | omega | trivial | rfl | (simp; done)) ?_)
      rw [idxOf_none (fun j b hb => hall j b (by have := lt_of_get hb; omega) hb)]
      exact end_quiet0 rfl rfl

end Go.Proofs.Ytamoclnnakdiaaa.Abs
