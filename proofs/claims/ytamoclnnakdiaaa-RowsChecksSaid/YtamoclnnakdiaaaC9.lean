/-
  Rules that fit columns.
  Conditions: none.
-/
import Derived.Test.YtamoclnnakdiaaaC8
namespace Go.Proofs.Ytamoclnnakdiaaa.Abs
open Go Go.RowKit
set_option linter.unusedVariables false
set_option maxRecDepth 100000
set_option maxHeartbeats 4000000
set_option linter.unusedSimpArgs false

/-- Where a column of a name is. -/
def colAt (l : List ColR) (s : List UInt8) : Int := idxOf (fun c => c.name == s) l

def okFit (l : List ColR) (cs : List (List UInt8)) (j : Nat) : Bool :=
  match cs[j]? with
  | some s => !decide (idxOf (fun c => c.name == s) l < 0) && (idxOf (fun t => s == t) cs == (j : Int))
  | none => true
theorem okFit_at {l : List ColR} {cs : List (List UInt8)} {j : Nat} {s : List UInt8} (h : cs[j]? = some s) : okFit l cs j = (!decide (idxOf (fun c => c.name == s) l < 0) && (idxOf (fun t => s == t) cs == (j : Int))) := by
  unfold okFit
  rw [h]

def kindAt (l : List ColR) (i : Int) : Int :=
  match l[i.toNat]? with
  | some c => c.kind
  | none => 0

def bare3 (r : RuleR) : Bool := r.schema ++ (r.table ++ r.key) == []

def fitTail (l : List ColR) (r : RuleR) : Bool :=
  if r.kind == 3 then bare3 r && ((r.cols.length : Int) == 1) && (kindAt l (idxOf (fun c => c.name == r.cols.headD []) l) == 2) && decide (r.low ≤ r.high)
  else if r.kind == 4 then (nameB r.schema && nameB r.table && nameB r.key) && (r.low == 0) && (r.high == 0)
  else if r.kind == 1 then bare3 r && (r.low == 0) && (r.high == 0)
  else if r.kind == 2 then bare3 r && (r.low == 0) && (r.high == 0)
  else false

def fitsB (l : List ColR) (r : RuleR) : Bool :=
  nameB r.name && !decide ((r.cols.length : Int) < 1) && !decide (l.length < r.cols.length) && (List.range r.cols.length).all (okFit l r.cols) && fitTail l r

theorem fits_q (l : List ColR) (r : RuleR) (hr : r.ok) (hn : l.length ≤ 140737488351232) (hm : r.cols.length ≤ 140737488351232) (H : List AObj) : QuietF Go.Proofs.Try.prog 98 [.fz (l.map ColR.av), RuleR.av r] H (.bool (fitsB l r)) := by
  refine ACallF.of hb_98 (acalls_body Try.func98 rfl ?_)
  intro hB hA
  rw [args0_98]
  obtain ⟨g1, g2, g3, g4, g5⟩ := hr
  have t3 := g3
  have t4 := g4
  have t5 := g5
  unfold tx at t3 t4 t5
  repeat' (first
    | ((with_reducible first | refine isWL ?_ | refine isGW ?_ | refine isWQ ?_ | refine isGQ ?_); (first | simp only [go_sem, Nat.reduceAdd, Nat.reduceMul, Nat.reduceLeDiff, Nat.reduceLT, Nat.reduceEqDiff, Int.reduceToNat, Int.reduceLE, Int.reduceLT, List.forall_mem_cons, List.not_mem_nil, false_implies, implies_true, hc] | simp only [go_sem, Nat.reduceAdd, Nat.reduceMul, Nat.reduceLeDiff, Nat.reduceLT, Nat.reduceEqDiff, Int.reduceToNat, Int.reduceLE, Int.reduceLT, List.forall_mem_cons, List.not_mem_nil, false_implies, implies_true]))
    | refine awp_seq_k (fun K hK => ?_)
    | refine awp_block ?_
    | refine awp_region_w (by first | (simp; done) | assumption | (simp; omega)) (fun Q hQ => ?_)
    | refine awp_region_q mixed (by kernel_rfl) (by kernel_rfl) rfl (by first | (simp; done) | assumption | (simp; omega)) (fun Q hQ => ?_)
    | refine callW_quiet (name_q r.name g1 _) ?_
    | refine callQ_quiet (name_q r.name g1 _) ?_
    | refine Both.mk ?_ ?_
    | (refine hQ _ _ ?_; clear hQ Q)
    | (refine hQ _ ?_; clear hQ Q)
    | refine awp_cond_true rfl ?_
    | refine awp_cond_false rfl ?_
    | refine awp_skip ?_
    | (refine awp_exit ?_; simp only [go_sem, Nat.reduceEqDiff])
    | (refine awp_ret ?_; try simp only [inBlock_ret, andThen_ret])
    | ((first | refine hK _ ?_ | (clear hK K; refine hK _ ?_) | (clear hK K; clear hK K; refine hK _ ?_) | (clear hK K; clear hK K; clear hK K; refine hK _ ?_) | (clear hK K; clear hK K; clear hK K; clear hK K; refine hK _ ?_) | (clear hK K; clear hK K; clear hK K; clear hK K; clear hK K; refine hK _ ?_) | (clear hK K; clear hK K; clear hK K; clear hK K; clear hK K; clear hK K; refine hK _ ?_)); clear hK; clear K)
    | refine And.intro (by first | assumption | omega | trivial | rfl | (simp; done)) ?_
    | (refine awp_cond _ rfl (fun hc => ?_) (fun hc => ?_) <;> (try simp only [Bool.not_eq_true', Bool.not_eq_false'] at hc) <;> (try simp only [hc]))
    | (refine gdW_split (fun hc => ?_) (fun hc => ?_) <;> (try simp only [Bool.not_eq_true', Bool.not_eq_false'] at hc))
    | (refine gdQ_split (fun hc => ?_) (fun hc => ?_) <;> (try simp only [Bool.not_eq_true', Bool.not_eq_false'] at hc)))
  rotate_left
  · repeat (first
      | ((with_reducible first | refine isWL ?_ | refine isGW ?_ | refine isWQ ?_ | refine isGQ ?_); simp only [go_sem, Nat.reduceAdd, Nat.reduceMul, Nat.reduceLeDiff, Nat.reduceLT, Nat.reduceEqDiff, Int.reduceToNat, Int.reduceLE, Int.reduceLT, List.forall_mem_cons, List.not_mem_nil, false_implies, implies_true])
      | refine awp_seq_k (fun K hK => ?_)
      | refine awp_block ?_
      | refine awp_region_w (by first | (simp; done) | assumption | (simp; omega)) (fun Q hQ => ?_)
      | refine awp_region_q mixed (by kernel_rfl) (by kernel_rfl) rfl (by first | (simp; done) | assumption | (simp; omega)) (fun Q hQ => ?_)
      | refine Both.mk ?_ ?_
      | (refine hQ _ _ ?_; clear hQ Q)
      | (refine hQ _ ?_; clear hQ Q)
      | refine awp_cond_true rfl ?_
      | refine awp_cond_false rfl ?_
      | refine awp_skip ?_
      | (refine awp_exit ?_; simp only [go_sem, Nat.reduceEqDiff])
      | (refine awp_ret ?_; try simp only [inBlock_ret, andThen_ret])
      | ((first | refine hK _ ?_ | (clear hK K; refine hK _ ?_) | (clear hK K; clear hK K; refine hK _ ?_) | (clear hK K; clear hK K; clear hK K; refine hK _ ?_) | (clear hK K; clear hK K; clear hK K; clear hK K; refine hK _ ?_) | (clear hK K; clear hK K; clear hK K; clear hK K; clear hK K; refine hK _ ?_) | (clear hK K; clear hK K; clear hK K; clear hK K; clear hK K; clear hK K; refine hK _ ?_)); clear hK; clear K)
      | refine And.intro (by first | assumption | omega | trivial | rfl | (simp; done)) ?_)
    refine awp_loop (fun n S => ∃ i : Nat, i ≤ r.cols.length ∧ n = r.cols.length - i ∧ (∀ j, j < i → okFit l r.cols j = true) ∧
        S = ⟨[.fz (l.map ColR.av), .junk, .junk, .ptr H.length 0, .bool false, .junk, .junk, .junk, .junk, .junk, .junk, .junk, .junk, .junk, .junk, .junk, .junk, .junk, .junk, .junk, .junk, .junk, .junk, .junk, .junk, .junk, .junk, .fz (r.cols.map .str), .int .i64 r.cols.length, .int .i64 (i : Int), .junk, .junk, .junk, .junk, .junk, .junk, .junk, .junk, .junk, .junk, .junk, .junk, .junk, .junk, .junk, .junk, .junk, .junk, .junk, .junk, .junk, .junk, .junk, .junk, .junk, .junk, .junk, .junk, .junk, .junk, .junk, .junk, .junk, .junk, .junk, .junk, .junk, .junk, .junk, .junk, .junk, .junk, .junk, .junk, .junk, .junk, .junk, .junk, .junk, .junk, .junk, .junk, .junk, .junk, .junk, .junk, .junk, .junk, .junk, .junk, .junk, .junk, .junk, .junk, .junk, .junk, .junk, .junk, .junk, .junk, .junk, .junk, .junk, .junk, .junk, .junk, .junk, .junk, .junk, .junk, .junk, .junk, .junk, .junk, .junk, .junk], H ++ [.var r.cells]⟩) ?_ ?_
    · refine ⟨_, _, weak_junk ?_, 0, Nat.zero_le _, rfl, by omega, rfl⟩
      simp [LeT, RuleR.cells]
    · rintro n S ⟨i, hi, rfl, hall, rfl⟩
      by_cases hlt : i < r.cols.length
      · have hw := wrap_succ hlt (by omega)
        have hd : (decide (i < r.cols.length)) = true := by simpa using hlt
        obtain ⟨a, ha⟩ : ∃ a, r.cols[i]? = some a := ⟨r.cols[i], List.getElem?_eq_getElem hlt⟩
        have hlk := look_map (g := AV.str) ha
        have hok := okFit_at (l := l) ha
        repeat' (first
          | ((with_reducible first | refine isWL ?_ | refine isGW ?_ | refine isWQ ?_ | refine isGQ ?_); (first | simp only [go_sem, Nat.reduceAdd, Nat.reduceMul, Nat.reduceLeDiff, Nat.reduceLT, Nat.reduceEqDiff, Int.reduceToNat, Int.reduceLE, Int.reduceLT, List.forall_mem_cons, List.not_mem_nil, false_implies, implies_true, hd, hw, hlk, hlt, hc] | simp only [go_sem, Nat.reduceAdd, Nat.reduceMul, Nat.reduceLeDiff, Nat.reduceLT, Nat.reduceEqDiff, Int.reduceToNat, Int.reduceLE, Int.reduceLT, List.forall_mem_cons, List.not_mem_nil, false_implies, implies_true, hd, hw, hlk, hlt]))
          | refine awp_seq_k (fun K hK => ?_)
          | refine awp_block ?_
          | refine awp_region_w (by first | (simp; done) | assumption | (simp; omega)) (fun Q hQ => ?_)
          | refine awp_region_q mixed (by kernel_rfl) (by kernel_rfl) rfl (by first | (simp; done) | assumption | (simp; omega)) (fun Q hQ => ?_)
          | refine callW_quiet (byName_col l a hn _) ?_
          | refine callQ_quiet (byName_col l a hn _) ?_
          | refine callW_quiet (index_str r.cols a _ hm) ?_
          | refine callQ_quiet (index_str r.cols a _ hm) ?_
          | refine Both.mk ?_ ?_
          | (refine hQ _ _ ?_; clear hQ Q)
          | (refine hQ _ ?_; clear hQ Q)
          | refine awp_cond_true rfl ?_
          | refine awp_cond_false rfl ?_
          | refine awp_skip ?_
          | (refine awp_exit ?_; simp only [go_sem, Nat.reduceEqDiff])
          | (refine awp_ret ?_; try simp only [inBlock_ret, andThen_ret])
          | ((first | refine hK _ ?_ | (clear hK K; refine hK _ ?_) | (clear hK K; clear hK K; refine hK _ ?_) | (clear hK K; clear hK K; clear hK K; refine hK _ ?_) | (clear hK K; clear hK K; clear hK K; clear hK K; refine hK _ ?_) | (clear hK K; clear hK K; clear hK K; clear hK K; clear hK K; refine hK _ ?_) | (clear hK K; clear hK K; clear hK K; clear hK K; clear hK K; clear hK K; refine hK _ ?_)); clear hK; clear K)
          | refine And.intro (by first | assumption | omega | trivial | rfl | (simp; done)) ?_
          | (refine awp_cond _ rfl (fun hc => ?_) (fun hc => ?_) <;> (try simp only [Bool.not_eq_true', Bool.not_eq_false'] at hc) <;> (try simp only [hc]))
          | (refine gdW_split (fun hc => ?_) (fun hc => ?_) <;> (try simp only [Bool.not_eq_true', Bool.not_eq_false'] at hc))
          | (refine gdQ_split (fun hc => ?_) (fun hc => ?_) <;> (try simp only [Bool.not_eq_true', Bool.not_eq_false'] at hc)))
        all_goals first
          | (rw [andThen_normal]
             refine ⟨r.cols.length - (i + 1), by omega, _, weak_junk ?_, i + 1, by omega, rfl, ?_, rfl⟩
             · simp [LeT, RuleR.cells]
             · intro j hj
               rcases Nat.lt_or_ge j i with h | h
               · exact hall j h
               · obtain rfl : j = i := by omega
                 rw [hok]
                 simp only [*, Bool.and_self, Bool.not_false])
          | (have hx : (List.range r.cols.length).all (okFit l r.cols) = false := range_all_false hlt (by rw [hok]; simp only [*, Bool.and_false, Bool.false_and, Bool.not_true])
             refine end_quiet hB rfl ?_ (by simp)
             simp only [go_sem, fitsB, hx, Bool.and_false, Bool.false_and])
          | trace_state
      · have hd : decide (i < r.cols.length) = false := by simpa using hlt
        have hx : (List.range r.cols.length).all (okFit l r.cols) = true := range_all_true (fun j hj => hall j (by omega))
        have hpos : 0 < r.cols.length := by
          have := ‹decide ((r.cols.length : Int) < 1) = false›
          simp only [decide_eq_false_iff_not] at this
          omega
        obtain ⟨s0, rest, hs0⟩ : ∃ s0 rest, r.cols = s0 :: rest := by
          cases hcs : r.cols with
          | nil => rw [hcs] at hpos; simp at hpos
          | cons s0 rest => exact ⟨s0, rest, rfl⟩
        have h0 := hall 0 (by omega)
        rw [okFit_at (s := s0) (by rw [hs0]; rfl)] at h0
        simp only [Bool.and_eq_true, Bool.not_eq_true', decide_eq_false_iff_not] at h0
        have hge : 0 ≤ idxOf (fun c => c.name == s0) l := by omega
        have hlt2 : idxOf (fun c => c.name == s0) l < l.length := idxOf_lt
        obtain ⟨c, hc0⟩ : ∃ c, l[(idxOf (fun c => c.name == s0) l).toNat]? = some c := ⟨_, List.getElem?_eq_getElem (by omega)⟩
        have hlk0 := look_map (g := ColR.av) hc0
        have hls : look (r.cols.map AV.str) 0 = .str s0 := look_map (by rw [hs0]; rfl)
        have hk : kindAt l (idxOf (fun c => c.name == r.cols.headD []) l) = c.kind := by
          rw [hs0]
          simp only [List.headD_cons, kindAt, hc0]
        repeat' (first
          | ((with_reducible first | refine isWL ?_ | refine isGW ?_ | refine isWQ ?_ | refine isGQ ?_); (first | simp only [go_sem, Nat.reduceAdd, Nat.reduceMul, Nat.reduceLeDiff, Nat.reduceLT, Nat.reduceEqDiff, Int.reduceToNat, Int.reduceLE, Int.reduceLT, List.forall_mem_cons, List.not_mem_nil, false_implies, implies_true, hd, hls, hlk0, hge, hlt2, hc] | simp only [go_sem, Nat.reduceAdd, Nat.reduceMul, Nat.reduceLeDiff, Nat.reduceLT, Nat.reduceEqDiff, Int.reduceToNat, Int.reduceLE, Int.reduceLT, List.forall_mem_cons, List.not_mem_nil, false_implies, implies_true, hd, hls, hlk0, hge, hlt2]))
          | refine awp_seq_k (fun K hK => ?_)
          | refine awp_block ?_
          | refine awp_region_w (by first | (simp; done) | assumption | (simp; omega)) (fun Q hQ => ?_)
          | refine awp_region_q mixed (by kernel_rfl) (by kernel_rfl) rfl (by first | (simp; done) | assumption | (simp; omega)) (fun Q hQ => ?_)
          | refine callW_quiet (byName_col l s0 hn _) ?_
          | refine callQ_quiet (byName_col l s0 hn _) ?_
          | refine callW_quiet (name_q r.schema g3 _) ?_
          | refine callQ_quiet (name_q r.schema g3 _) ?_
          | refine callW_quiet (name_q r.table g4 _) ?_
          | refine callQ_quiet (name_q r.table g4 _) ?_
          | refine callW_quiet (name_q r.key g5 _) ?_
          | refine callQ_quiet (name_q r.key g5 _) ?_
          | refine Both.mk ?_ ?_
          | (refine hQ _ _ ?_; clear hQ Q)
          | (refine hQ _ ?_; clear hQ Q)
          | refine awp_cond_true rfl ?_
          | refine awp_cond_false rfl ?_
          | refine awp_skip ?_
          | (refine awp_exit ?_; simp only [go_sem, Nat.reduceEqDiff])
          | (refine awp_ret ?_; try simp only [inBlock_ret, andThen_ret])
          | ((first | refine hK _ ?_ | (clear hK K; refine hK _ ?_) | (clear hK K; clear hK K; refine hK _ ?_) | (clear hK K; clear hK K; clear hK K; refine hK _ ?_) | (clear hK K; clear hK K; clear hK K; clear hK K; refine hK _ ?_) | (clear hK K; clear hK K; clear hK K; clear hK K; clear hK K; refine hK _ ?_) | (clear hK K; clear hK K; clear hK K; clear hK K; clear hK K; clear hK K; refine hK _ ?_)); clear hK; clear K)
          | refine And.intro (by first | assumption | omega | trivial | rfl | (simp; done) | (simp only [List.length_append]; omega)) ?_
          | (refine awp_cond _ rfl (fun hc => ?_) (fun hc => ?_) <;> (try simp only [Bool.not_eq_true', Bool.not_eq_false'] at hc) <;> (try simp only [hc]))
          | (refine gdW_split (fun hc => ?_) (fun hc => ?_) <;> (try simp only [Bool.not_eq_true', Bool.not_eq_false'] at hc))
          | (refine gdQ_split (fun hc => ?_) (fun hc => ?_) <;> (try simp only [Bool.not_eq_true', Bool.not_eq_false'] at hc)))
        all_goals clear hs0
        all_goals
          first | refine end_quiet hB rfl ?_ (by simp) | refine end_quiet0 rfl ?_
          try clear hB hA
          try simp only [go_sem, fitsB, fitTail, bare3, hx, hk, Bool.not_true, Bool.not_false, Bool.false_eq_true, if_false, if_true, *, Bool.true_and, Bool.and_true, Bool.false_and, Bool.and_false, Bool.or_true, Bool.true_or, Bool.false_or, Bool.or_false]
  all_goals
    first | refine end_quiet hB rfl ?_ (by simp) | refine end_quiet0 rfl ?_
    try clear hB hA
    try simp only [go_sem, fitsB, Bool.not_true, Bool.not_false, *, Bool.true_and, Bool.and_true, Bool.false_and, Bool.and_false, Bool.or_true, Bool.true_or, Bool.false_or, Bool.or_false]

end Go.Proofs.Ytamoclnnakdiaaa.Abs
