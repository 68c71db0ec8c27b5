/-
  Searches in lists: what they give.
  Conditions: none.
-/
import Derived.Test.YtamoclnnakdiaaaR1
namespace Go.Proofs.Ytamoclnnakdiaaa.Abs
open Go Go.RowKit
set_option linter.unusedVariables false
set_option maxRecDepth 100000
set_option maxHeartbeats 4000000
set_option linter.unusedSimpArgs false

structure ValR where
  kind : Int
  num : Int
  text : List UInt8
  deriving DecidableEq
@[go_sem] def ValR.av (v : ValR) : AV := .agg [.int .i64 v.kind, .int .i64 v.num, .str v.text]

@[go_sem] def RuleR.av (r : RuleR) : AV := .agg r.cells

structure SchemaR where
  name : List UInt8
  owner : List UInt8
@[go_sem] def SchemaR.av (s : SchemaR) : AV := .agg [.str s.name, .str s.owner]

structure TableR where
  schema : List UInt8
  name : List UInt8
  owner : List UInt8
  cols : List ColR
  rules : List RuleR
@[go_sem] def TableR.cells (t : TableR) : List AV := [.str t.schema, .str t.name, .str t.owner, .fz (t.cols.map ColR.av), .fz (t.rules.map RuleR.av)]
@[go_sem] def TableR.av (t : TableR) : AV := .agg t.cells

/-- The first place where p holds; -1: none. -/
def idxOf {α : Type} (p : α → Bool) (l : List α) : Int := if l.findIdx p < l.length then (l.findIdx p : Int) else -1

theorem idxOf_at {α : Type} {p : α → Bool} {l : List α} {i : Nat} {a : α} (ha : l[i]? = some a) (hb : ∀ (j : Nat) (b : α), j < i → l[j]? = some b → p b = false) (hp : p a = true) : idxOf p l = i := by
  have hi : i < l.length := lt_of_get ha
  have : l.findIdx p = i := by
    rw [List.findIdx_eq hi]
    rw [List.getElem?_eq_getElem hi] at ha
    cases ha
    exact ⟨hp, fun j hj => hb j _ hj (List.getElem?_eq_getElem (by omega))⟩
  unfold idxOf
  rw [this, if_pos hi]

theorem idxOf_none {α : Type} {p : α → Bool} {l : List α} (hb : ∀ (j : Nat) (b : α), l[j]? = some b → p b = false) : idxOf p l = -1 := by
  unfold idxOf
  rw [if_neg]
  rw [List.findIdx_lt_length]
  rintro ⟨x, hx, hp⟩
  obtain ⟨j, hj⟩ := List.getElem?_of_mem hx
  rw [hb j x hj] at hp
  cases hp

theorem idxOf_lt {α : Type} {p : α → Bool} {l : List α} : idxOf p l < l.length := by
  unfold idxOf
  split <;> omega

theorem look_map {α : Type} {g : α → AV} {l : List α} {i : Nat} {a : α} (h : l[i]? = some a) : look (l.map g) i = g a := by
  rw [look_eq, List.getD_eq_getElem?_getD, List.getElem?_map, h]
  rfl

theorem indexFunc_col (xs : List ColR) (p : ColR → Bool) (k : FuncId) (cap : List AV) (H : List AObj) (hn : xs.length ≤ 140737488351232) (hf : ∀ a, a ∈ xs → QuietF Go.Proofs.Try.prog k (ColR.av a :: cap) H (.bool (p a))) :
    QuietF Go.Proofs.Try.prog 82 [.fz (xs.map ColR.av), .fn (.func k) [] cap] H (.int .i64 (idxOf p xs)) := by
  refine ACallF.of hb_82 (acalls_body Try.func82 rfl ?_)
  intro hB hA
  rw [args0_82]
  repeat (first
    | ((with_reducible first | refine isWL ?_ | refine isGW ?_ | refine isWQ ?_ | refine isGQ ?_); simp only [go_sem, Nat.reduceAdd, Nat.reduceMul, Nat.reduceLeDiff, Nat.reduceLT, Nat.reduceEqDiff, Int.reduceToNat, Int.reduceLE, Int.reduceLT, List.forall_mem_cons, List.not_mem_nil, false_implies, implies_true])
    | refine awp_seq_k (fun K hK => ?_)
    | refine awp_block ?_
    | refine awp_region_w (by first | (simp; done) | assumption | (simp; omega)) (fun Q hQ => ?_)
    | refine awp_region_q mixed (by kernel_rfl) (by kernel_rfl) rfl (by first | (simp; done) | assumption | (simp; omega)) (fun Q hQ => ?_)
    | refine Both.mk ?_ ?_
    | (refine hQ _ _ ?_; clear hQ Q)
    | (refine hQ _ ?_; clear hQ Q)
    | refine awp_cond_true rfl ?_
    | refine awp_cond_false rfl ?_
    | refine awp_skip ?_
    | (refine awp_exit ?_; simp only [go_sem, Nat.reduceEqDiff])
    | (refine awp_ret ?_; try simp only [inBlock_ret, andThen_ret])
    | ((first | refine hK _ ?_ | (clear hK K; refine hK _ ?_) | (clear hK K; clear hK K; refine hK _ ?_) | (clear hK K; clear hK K; clear hK K; refine hK _ ?_) | (clear hK K; clear hK K; clear hK K; clear hK K; refine hK _ ?_) | (clear hK K; clear hK K; clear hK K; clear hK K; clear hK K; refine hK _ ?_) | (clear hK K; clear hK K; clear hK K; clear hK K; clear hK K; clear hK K; refine hK _ ?_)); clear hK; clear K)
    | refine And.intro (by first | assumption | omega | trivial | rfl | (simp; done)) ?_)
  refine awp_loop (fun n S => ∃ i : Nat, i ≤ xs.length ∧ n = xs.length - i ∧ (∀ (j : Nat) (b : ColR), j < i → xs[j]? = some b → p b = false) ∧
      S = ⟨[.fz (xs.map ColR.av), .fn (.func k) [] cap, .junk, .junk, .junk, .junk, .junk, .int .i64 xs.length, .int .i64 (i : Int), .junk, .junk, .junk, .junk, .junk, .junk, .junk, .junk, .junk, .junk], H⟩) ?_ ?_
  · refine ⟨_, _, weak_junk ?_, 0, Nat.zero_le _, rfl, by omega, rfl⟩
    simp [LeT]
  · rintro n S ⟨i, hi, rfl, hall, rfl⟩
    by_cases hlt : i < xs.length
    · have hw := wrap_succ hlt (by omega)
      have hd : (decide (i < xs.length)) = true := by simpa using hlt
      obtain ⟨a, ha⟩ : ∃ a, xs[i]? = some a := ⟨xs[i], List.getElem?_eq_getElem hlt⟩
      have hl := look_map (g := ColR.av) ha
      repeat' (first
        | ((with_reducible first | refine isWL ?_ | refine isGW ?_ | refine isWQ ?_ | refine isGQ ?_); (first | simp only [go_sem, Nat.reduceAdd, Nat.reduceMul, Nat.reduceLeDiff, Nat.reduceLT, Nat.reduceEqDiff, Int.reduceToNat, Int.reduceLE, Int.reduceLT, List.forall_mem_cons, List.not_mem_nil, false_implies, implies_true, hd, hw, hl, hlt, hc] | simp only [go_sem, Nat.reduceAdd, Nat.reduceMul, Nat.reduceLeDiff, Nat.reduceLT, Nat.reduceEqDiff, Int.reduceToNat, Int.reduceLE, Int.reduceLT, List.forall_mem_cons, List.not_mem_nil, false_implies, implies_true, hd, hw, hl, hlt]))
        | refine awp_seq_k (fun K hK => ?_)
        | refine awp_block ?_
        | refine awp_region_w (by first | (simp; done) | assumption | (simp; omega)) (fun Q hQ => ?_)
        | refine awp_region_q mixed (by kernel_rfl) (by kernel_rfl) rfl (by first | (simp; done) | assumption | (simp; omega)) (fun Q hQ => ?_)
        | refine callW_quiet (hf a (List.mem_of_getElem? ha)) ?_
        | refine callQ_quiet (hf a (List.mem_of_getElem? ha)) ?_
        | refine Both.mk ?_ ?_
        | (refine hQ _ _ ?_; clear hQ Q)
        | (refine hQ _ ?_; clear hQ Q)
        | refine awp_cond_true rfl ?_
        | refine awp_cond_false rfl ?_
        | refine awp_skip ?_
        | (refine awp_exit ?_; simp only [go_sem, Nat.reduceEqDiff])
        | (refine awp_ret ?_; try simp only [inBlock_ret, andThen_ret])
        | ((first | refine hK _ ?_ | (clear hK K; refine hK _ ?_) | (clear hK K; clear hK K; refine hK _ ?_) | (clear hK K; clear hK K; clear hK K; refine hK _ ?_) | (clear hK K; clear hK K; clear hK K; clear hK K; refine hK _ ?_) | (clear hK K; clear hK K; clear hK K; clear hK K; clear hK K; refine hK _ ?_) | (clear hK K; clear hK K; clear hK K; clear hK K; clear hK K; clear hK K; refine hK _ ?_)); clear hK; clear K)
        | refine And.intro (by first | assumption | omega | trivial | rfl | (simp; done)) ?_
        | (refine awp_cond _ rfl (fun hc => ?_) (fun hc => ?_) <;> (try simp only [Bool.not_eq_true', Bool.not_eq_false'] at hc) <;> (try simp only [hc]))
        | (refine gdW_split (fun hc => ?_) (fun hc => ?_) <;> (try simp only [Bool.not_eq_true', Bool.not_eq_false'] at hc))
        | (refine gdQ_split (fun hc => ?_) (fun hc => ?_) <;> (try simp only [Bool.not_eq_true', Bool.not_eq_false'] at hc)))
      · rw [idxOf_at ha hall (by assumption)]
        exact end_quiet0 rfl rfl
      · rw [andThen_normal]
        refine ⟨xs.length - (i + 1), by omega, _, weak_junk ?_, i + 1, by omega, rfl, ?_, rfl⟩
        · simp [LeT]
        · intro j b hj hb
          rcases Nat.lt_or_ge j i with h | h
          · exact hall j b h hb
          · obtain rfl : j = i := by omega
            rw [ha] at hb
            cases hb
            assumption
    · have hd : decide (i < xs.length) = false := by simpa using hlt
      repeat (first
        | ((with_reducible first | refine isWL ?_ | refine isGW ?_ | refine isWQ ?_ | refine isGQ ?_); simp only [go_sem, Nat.reduceAdd, Nat.reduceMul, Nat.reduceLeDiff, Nat.reduceLT, Nat.reduceEqDiff, Int.reduceToNat, Int.reduceLE, Int.reduceLT, List.forall_mem_cons, List.not_mem_nil, false_implies, implies_true, hd])
        | refine awp_seq_k (fun K hK => ?_)
        | refine awp_block ?_
        | refine awp_region_w (by first | (simp; done) | assumption | (simp; omega)) (fun Q hQ => ?_)
        | refine awp_region_q mixed (by kernel_rfl) (by kernel_rfl) rfl (by first | (simp; done) | assumption | (simp; omega)) (fun Q hQ => ?_)
        | refine Both.mk ?_ ?_
        | (refine hQ _ _ ?_; clear hQ Q)
        | (refine hQ _ ?_; clear hQ Q)
        | refine awp_cond_true rfl ?_
        | refine awp_cond_false rfl ?_
        | refine awp_skip ?_
        | (refine awp_exit ?_; simp only [go_sem, Nat.reduceEqDiff])
        | (refine awp_ret ?_; try simp only [inBlock_ret, andThen_ret])
        | ((first | refine hK _ ?_ | (clear hK K; refine hK _ ?_) | (clear hK K; clear hK K; refine hK _ ?_) | (clear hK K; clear hK K; clear hK K; refine hK _ ?_) | (clear hK K; clear hK K; clear hK K; clear hK K; refine hK _ ?_) | (clear hK K; clear hK K; clear hK K; clear hK K; clear hK K; refine hK _ ?_) | (clear hK K; clear hK K; clear hK K; clear hK K; clear hK K; clear hK K; refine hK _ ?_)); clear hK; clear K)
        | refine And.intro (by first | assumption | omega | trivial | rfl | (simp; done)) ?_)
      rw [idxOf_none (fun j b hb => hall j b (by have := lt_of_get hb; omega) hb)]
      exact end_quiet0 rfl rfl

theorem indexFunc_rule (xs : List RuleR) (p : RuleR → Bool) (k : FuncId) (cap : List AV) (H : List AObj) (hn : xs.length ≤ 140737488351232) (hf : ∀ a, a ∈ xs → QuietF Go.Proofs.Try.prog k (RuleR.av a :: cap) H (.bool (p a))) :
    QuietF Go.Proofs.Try.prog 51 [.fz (xs.map RuleR.av), .fn (.func k) [] cap] H (.int .i64 (idxOf p xs)) := by
  refine ACallF.of hb_51 (acalls_body Try.func51 rfl ?_)
  intro hB hA
  rw [args0_51]
  repeat (first
    | ((with_reducible first | refine isWL ?_ | refine isGW ?_ | refine isWQ ?_ | refine isGQ ?_); simp only [go_sem, Nat.reduceAdd, Nat.reduceMul, Nat.reduceLeDiff, Nat.reduceLT, Nat.reduceEqDiff, Int.reduceToNat, Int.reduceLE, Int.reduceLT, List.forall_mem_cons, List.not_mem_nil, false_implies, implies_true])
    | refine awp_seq_k (fun K hK => ?_)
    | refine awp_block ?_
    | refine awp_region_w (by first | (simp; done) | assumption | (simp; omega)) (fun Q hQ => ?_)
    | refine awp_region_q mixed (by kernel_rfl) (by kernel_rfl) rfl (by first | (simp; done) | assumption | (simp; omega)) (fun Q hQ => ?_)
    | refine Both.mk ?_ ?_
    | (refine hQ _ _ ?_; clear hQ Q)
    | (refine hQ _ ?_; clear hQ Q)
    | refine awp_cond_true rfl ?_
    | refine awp_cond_false rfl ?_
    | refine awp_skip ?_
    | (refine awp_exit ?_; simp only [go_sem, Nat.reduceEqDiff])
    | (refine awp_ret ?_; try simp only [inBlock_ret, andThen_ret])
    | ((first | refine hK _ ?_ | (clear hK K; refine hK _ ?_) | (clear hK K; clear hK K; refine hK _ ?_) | (clear hK K; clear hK K; clear hK K; refine hK _ ?_) | (clear hK K; clear hK K; clear hK K; clear hK K; refine hK _ ?_) | (clear hK K; clear hK K; clear hK K; clear hK K; clear hK K; refine hK _ ?_) | (clear hK K; clear hK K; clear hK K; clear hK K; clear hK K; clear hK K; refine hK _ ?_)); clear hK; clear K)
    | refine And.intro (by first | assumption | omega | trivial | rfl | (simp; done)) ?_)
  refine awp_loop (fun n S => ∃ i : Nat, i ≤ xs.length ∧ n = xs.length - i ∧ (∀ (j : Nat) (b : RuleR), j < i → xs[j]? = some b → p b = false) ∧
      S = ⟨[.fz (xs.map RuleR.av), .fn (.func k) [] cap, .junk, .junk, .junk, .junk, .junk, .int .i64 xs.length, .int .i64 (i : Int), .junk, .junk, .junk, .junk, .junk, .junk, .junk, .junk, .junk, .junk], H⟩) ?_ ?_
  · refine ⟨_, _, weak_junk ?_, 0, Nat.zero_le _, rfl, by omega, rfl⟩
    simp [LeT]
  · rintro n S ⟨i, hi, rfl, hall, rfl⟩
    by_cases hlt : i < xs.length
    · have hw := wrap_succ hlt (by omega)
      have hd : (decide (i < xs.length)) = true := by simpa using hlt
      obtain ⟨a, ha⟩ : ∃ a, xs[i]? = some a := ⟨xs[i], List.getElem?_eq_getElem hlt⟩
      have hl := look_map (g := RuleR.av) ha
      repeat' (first
        | ((with_reducible first | refine isWL ?_ | refine isGW ?_ | refine isWQ ?_ | refine isGQ ?_); (first | simp only [go_sem, Nat.reduceAdd, Nat.reduceMul, Nat.reduceLeDiff, Nat.reduceLT, Nat.reduceEqDiff, Int.reduceToNat, Int.reduceLE, Int.reduceLT, List.forall_mem_cons, List.not_mem_nil, false_implies, implies_true, hd, hw, hl, hlt, hc] | simp only [go_sem, Nat.reduceAdd, Nat.reduceMul, Nat.reduceLeDiff, Nat.reduceLT, Nat.reduceEqDiff, Int.reduceToNat, Int.reduceLE, Int.reduceLT, List.forall_mem_cons, List.not_mem_nil, false_implies, implies_true, hd, hw, hl, hlt]))
        | refine awp_seq_k (fun K hK => ?_)
        | refine awp_block ?_
        | refine awp_region_w (by first | (simp; done) | assumption | (simp; omega)) (fun Q hQ => ?_)
        | refine awp_region_q mixed (by kernel_rfl) (by kernel_rfl) rfl (by first | (simp; done) | assumption | (simp; omega)) (fun Q hQ => ?_)
        | refine callW_quiet (hf a (List.mem_of_getElem? ha)) ?_
        | refine callQ_quiet (hf a (List.mem_of_getElem? ha)) ?_
        | refine Both.mk ?_ ?_
        | (refine hQ _ _ ?_; clear hQ Q)
        | (refine hQ _ ?_; clear hQ Q)
        | refine awp_cond_true rfl ?_
        | refine awp_cond_false rfl ?_
        | refine awp_skip ?_
        | (refine awp_exit ?_; simp only [go_sem, Nat.reduceEqDiff])
        | (refine awp_ret ?_; try simp only [inBlock_ret, andThen_ret])
        | ((first | refine hK _ ?_ | (clear hK K; refine hK _ ?_) | (clear hK K; clear hK K; refine hK _ ?_) | (clear hK K; clear hK K; clear hK K; refine hK _ ?_) | (clear hK K; clear hK K; clear hK K; clear hK K; refine hK _ ?_) | (clear hK K; clear hK K; clear hK K; clear hK K; clear hK K; refine hK _ ?_) | (clear hK K; clear hK K; clear hK K; clear hK K; clear hK K; clear hK K; refine hK _ ?_)); clear hK; clear K)
        | refine And.intro (by first | assumption | omega | trivial | rfl | (simp; done)) ?_
        | (refine awp_cond _ rfl (fun hc => ?_) (fun hc => ?_) <;> (try simp only [Bool.not_eq_true', Bool.not_eq_false'] at hc) <;> (try simp only [hc]))
        | (refine gdW_split (fun hc => ?_) (fun hc => ?_) <;> (try simp only [Bool.not_eq_true', Bool.not_eq_false'] at hc))
        | (refine gdQ_split (fun hc => ?_) (fun hc => ?_) <;> (try simp only [Bool.not_eq_true', Bool.not_eq_false'] at hc)))
      · rw [idxOf_at ha hall (by assumption)]
        exact end_quiet0 rfl rfl
      · rw [andThen_normal]
        refine ⟨xs.length - (i + 1), by omega, _, weak_junk ?_, i + 1, by omega, rfl, ?_, rfl⟩
        · simp [LeT]
        · intro j b hj hb
          rcases Nat.lt_or_ge j i with h | h
          · exact hall j b h hb
          · obtain rfl : j = i := by omega
            rw [ha] at hb
            cases hb
            assumption
    · have hd : decide (i < xs.length) = false := by simpa using hlt
      repeat (first
        | ((with_reducible first | refine isWL ?_ | refine isGW ?_ | refine isWQ ?_ | refine isGQ ?_); simp only [go_sem, Nat.reduceAdd, Nat.reduceMul, Nat.reduceLeDiff, Nat.reduceLT, Nat.reduceEqDiff, Int.reduceToNat, Int.reduceLE, Int.reduceLT, List.forall_mem_cons, List.not_mem_nil, false_implies, implies_true, hd])
        | refine awp_seq_k (fun K hK => ?_)
        | refine awp_block ?_
        | refine awp_region_w (by first | (simp; done) | assumption | (simp; omega)) (fun Q hQ => ?_)
        | refine awp_region_q mixed (by kernel_rfl) (by kernel_rfl) rfl (by first | (simp; done) | assumption | (simp; omega)) (fun Q hQ => ?_)
        | refine Both.mk ?_ ?_
        | (refine hQ _ _ ?_; clear hQ Q)
        | (refine hQ _ ?_; clear hQ Q)
        | refine awp_cond_true rfl ?_
        | refine awp_cond_false rfl ?_
        | refine awp_skip ?_
        | (refine awp_exit ?_; simp only [go_sem, Nat.reduceEqDiff])
        | (refine awp_ret ?_; try simp only [inBlock_ret, andThen_ret])
        | ((first | refine hK _ ?_ | (clear hK K; refine hK _ ?_) | (clear hK K; clear hK K; refine hK _ ?_) | (clear hK K; clear hK K; clear hK K; refine hK _ ?_) | (clear hK K; clear hK K; clear hK K; clear hK K; refine hK _ ?_) | (clear hK K; clear hK K; clear hK K; clear hK K; clear hK K; refine hK _ ?_) | (clear hK K; clear hK K; clear hK K; clear hK K; clear hK K; clear hK K; refine hK _ ?_)); clear hK; clear K)
        | refine And.intro (by first | assumption | omega | trivial | rfl | (simp; done)) ?_)
      rw [idxOf_none (fun j b hb => hall j b (by have := lt_of_get hb; omega) hb)]
      exact end_quiet0 rfl rfl

theorem indexFunc_schema (xs : List SchemaR) (p : SchemaR → Bool) (k : FuncId) (cap : List AV) (H : List AObj) (hn : xs.length ≤ 140737488351232) (hf : ∀ a, a ∈ xs → QuietF Go.Proofs.Try.prog k (SchemaR.av a :: cap) H (.bool (p a))) :
    QuietF Go.Proofs.Try.prog 116 [.fz (xs.map SchemaR.av), .fn (.func k) [] cap] H (.int .i64 (idxOf p xs)) := by
  refine ACallF.of hb_116 (acalls_body Try.func116 rfl ?_)
  intro hB hA
  rw [args0_116]
  repeat (first
    | ((with_reducible first | refine isWL ?_ | refine isGW ?_ | refine isWQ ?_ | refine isGQ ?_); simp only [go_sem, Nat.reduceAdd, Nat.reduceMul, Nat.reduceLeDiff, Nat.reduceLT, Nat.reduceEqDiff, Int.reduceToNat, Int.reduceLE, Int.reduceLT, List.forall_mem_cons, List.not_mem_nil, false_implies, implies_true])
    | refine awp_seq_k (fun K hK => ?_)
    | refine awp_block ?_
    | refine awp_region_w (by first | (simp; done) | assumption | (simp; omega)) (fun Q hQ => ?_)
    | refine awp_region_q mixed (by kernel_rfl) (by kernel_rfl) rfl (by first | (simp; done) | assumption | (simp; omega)) (fun Q hQ => ?_)
    | refine Both.mk ?_ ?_
    | (refine hQ _ _ ?_; clear hQ Q)
    | (refine hQ _ ?_; clear hQ Q)
    | refine awp_cond_true rfl ?_
    | refine awp_cond_false rfl ?_
    | refine awp_skip ?_
    | (refine awp_exit ?_; simp only [go_sem, Nat.reduceEqDiff])
    | (refine awp_ret ?_; try simp only [inBlock_ret, andThen_ret])
    | ((first | refine hK _ ?_ | (clear hK K; refine hK _ ?_) | (clear hK K; clear hK K; refine hK _ ?_) | (clear hK K; clear hK K; clear hK K; refine hK _ ?_) | (clear hK K; clear hK K; clear hK K; clear hK K; refine hK _ ?_) | (clear hK K; clear hK K; clear hK K; clear hK K; clear hK K; refine hK _ ?_) | (clear hK K; clear hK K; clear hK K; clear hK K; clear hK K; clear hK K; refine hK _ ?_)); clear hK; clear K)
    | refine And.intro (by first | assumption | omega | trivial | rfl | (simp; done)) ?_)
  refine awp_loop (fun n S => ∃ i : Nat, i ≤ xs.length ∧ n = xs.length - i ∧ (∀ (j : Nat) (b : SchemaR), j < i → xs[j]? = some b → p b = false) ∧
      S = ⟨[.fz (xs.map SchemaR.av), .fn (.func k) [] cap, .junk, .junk, .junk, .junk, .junk, .int .i64 xs.length, .int .i64 (i : Int), .junk, .junk, .junk, .junk, .junk, .junk, .junk, .junk, .junk, .junk], H⟩) ?_ ?_
  · refine ⟨_, _, weak_junk ?_, 0, Nat.zero_le _, rfl, by omega, rfl⟩
    simp [LeT]
  · rintro n S ⟨i, hi, rfl, hall, rfl⟩
    by_cases hlt : i < xs.length
    · have hw := wrap_succ hlt (by omega)
      have hd : (decide (i < xs.length)) = true := by simpa using hlt
      obtain ⟨a, ha⟩ : ∃ a, xs[i]? = some a := ⟨xs[i], List.getElem?_eq_getElem hlt⟩
      have hl := look_map (g := SchemaR.av) ha
      repeat' (first
        | ((with_reducible first | refine isWL ?_ | refine isGW ?_ | refine isWQ ?_ | refine isGQ ?_); (first | simp only [go_sem, Nat.reduceAdd, Nat.reduceMul, Nat.reduceLeDiff, Nat.reduceLT, Nat.reduceEqDiff, Int.reduceToNat, Int.reduceLE, Int.reduceLT, List.forall_mem_cons, List.not_mem_nil, false_implies, implies_true, hd, hw, hl, hlt, hc] | simp only [go_sem, Nat.reduceAdd, Nat.reduceMul, Nat.reduceLeDiff, Nat.reduceLT, Nat.reduceEqDiff, Int.reduceToNat, Int.reduceLE, Int.reduceLT, List.forall_mem_cons, List.not_mem_nil, false_implies, implies_true, hd, hw, hl, hlt]))
        | refine awp_seq_k (fun K hK => ?_)
        | refine awp_block ?_
        | refine awp_region_w (by first | (simp; done) | assumption | (simp; omega)) (fun Q hQ => ?_)
        | refine awp_region_q mixed (by kernel_rfl) (by kernel_rfl) rfl (by first | (simp; done) | assumption | (simp; omega)) (fun Q hQ => ?_)
        | refine callW_quiet (hf a (List.mem_of_getElem? ha)) ?_
        | refine callQ_quiet (hf a (List.mem_of_getElem? ha)) ?_
        | refine Both.mk ?_ ?_
        | (refine hQ _ _ ?_; clear hQ Q)
        | (refine hQ _ ?_; clear hQ Q)
        | refine awp_cond_true rfl ?_
        | refine awp_cond_false rfl ?_
        | refine awp_skip ?_
        | (refine awp_exit ?_; simp only [go_sem, Nat.reduceEqDiff])
        | (refine awp_ret ?_; try simp only [inBlock_ret, andThen_ret])
        | ((first | refine hK _ ?_ | (clear hK K; refine hK _ ?_) | (clear hK K; clear hK K; refine hK _ ?_) | (clear hK K; clear hK K; clear hK K; refine hK _ ?_) | (clear hK K; clear hK K; clear hK K; clear hK K; refine hK _ ?_) | (clear hK K; clear hK K; clear hK K; clear hK K; clear hK K; refine hK _ ?_) | (clear hK K; clear hK K; clear hK K; clear hK K; clear hK K; clear hK K; refine hK _ ?_)); clear hK; clear K)
        | refine And.intro (by first | assumption | omega | trivial | rfl | (simp; done)) ?_
        | (refine awp_cond _ rfl (fun hc => ?_) (fun hc => ?_) <;> (try simp only [Bool.not_eq_true', Bool.not_eq_false'] at hc) <;> (try simp only [hc]))
        | (refine gdW_split (fun hc => ?_) (fun hc => ?_) <;> (try simp only [Bool.not_eq_true', Bool.not_eq_false'] at hc))
        | (refine gdQ_split (fun hc => ?_) (fun hc => ?_) <;> (try simp only [Bool.not_eq_true', Bool.not_eq_false'] at hc)))
      · rw [idxOf_at ha hall (by assumption)]
        exact end_quiet0 rfl rfl
      · rw [andThen_normal]
        refine ⟨xs.length - (i + 1), by omega, _, weak_junk ?_, i + 1, by omega, rfl, ?_, rfl⟩
        · simp [LeT]
        · intro j b hj hb
          rcases Nat.lt_or_ge j i with h | h
          · exact hall j b h hb
          · obtain rfl : j = i := by omega
            rw [ha] at hb
            cases hb
            assumption
    · have hd : decide (i < xs.length) = false := by simpa using hlt
      repeat (first
        | ((with_reducible first | refine isWL ?_ | refine isGW ?_ | refine isWQ ?_ | refine isGQ ?_); simp only [go_sem, Nat.reduceAdd, Nat.reduceMul, Nat.reduceLeDiff, Nat.reduceLT, Nat.reduceEqDiff, Int.reduceToNat, Int.reduceLE, Int.reduceLT, List.forall_mem_cons, List.not_mem_nil, false_implies, implies_true, hd])
        | refine awp_seq_k (fun K hK => ?_)
        | refine awp_block ?_
        | refine awp_region_w (by first | (simp; done) | assumption | (simp; omega)) (fun Q hQ => ?_)
        | refine awp_region_q mixed (by kernel_rfl) (by kernel_rfl) rfl (by first | (simp; done) | assumption | (simp; omega)) (fun Q hQ => ?_)
        | refine Both.mk ?_ ?_
        | (refine hQ _ _ ?_; clear hQ Q)
        | (refine hQ _ ?_; clear hQ Q)
        | refine awp_cond_true rfl ?_
        | refine awp_cond_false rfl ?_
        | refine awp_skip ?_
        | (refine awp_exit ?_; simp only [go_sem, Nat.reduceEqDiff])
        | (refine awp_ret ?_; try simp only [inBlock_ret, andThen_ret])
        | ((first | refine hK _ ?_ | (clear hK K; refine hK _ ?_) | (clear hK K; clear hK K; refine hK _ ?_) | (clear hK K; clear hK K; clear hK K; refine hK _ ?_) | (clear hK K; clear hK K; clear hK K; clear hK K; refine hK _ ?_) | (clear hK K; clear hK K; clear hK K; clear hK K; clear hK K; refine hK _ ?_) | (clear hK K; clear hK K; clear hK K; clear hK K; clear hK K; clear hK K; refine hK _ ?_)); clear hK; clear K)
        | refine And.intro (by first | assumption | omega | trivial | rfl | (simp; done)) ?_)
      rw [idxOf_none (fun j b hb => hall j b (by have := lt_of_get hb; omega) hb)]
      exact end_quiet0 rfl rfl

theorem indexFunc_table (xs : List TableR) (p : TableR → Bool) (k : FuncId) (cap : List AV) (H : List AObj) (hn : xs.length ≤ 140737488351232) (hf : ∀ a, a ∈ xs → QuietF Go.Proofs.Try.prog k (TableR.av a :: cap) H (.bool (p a))) :
    QuietF Go.Proofs.Try.prog 102 [.fz (xs.map TableR.av), .fn (.func k) [] cap] H (.int .i64 (idxOf p xs)) := by
  refine ACallF.of hb_102 (acalls_body Try.func102 rfl ?_)
  intro hB hA
  rw [args0_102]
  repeat (first
    | ((with_reducible first | refine isWL ?_ | refine isGW ?_ | refine isWQ ?_ | refine isGQ ?_); simp only [go_sem, Nat.reduceAdd, Nat.reduceMul, Nat.reduceLeDiff, Nat.reduceLT, Nat.reduceEqDiff, Int.reduceToNat, Int.reduceLE, Int.reduceLT, List.forall_mem_cons, List.not_mem_nil, false_implies, implies_true])
    | refine awp_seq_k (fun K hK => ?_)
    | refine awp_block ?_
    | refine awp_region_w (by first | (simp; done) | assumption | (simp; omega)) (fun Q hQ => ?_)
    | refine awp_region_q mixed (by kernel_rfl) (by kernel_rfl) rfl (by first | (simp; done) | assumption | (simp; omega)) (fun Q hQ => ?_)
    | refine Both.mk ?_ ?_
    | (refine hQ _ _ ?_; clear hQ Q)
    | (refine hQ _ ?_; clear hQ Q)
    | refine awp_cond_true rfl ?_
    | refine awp_cond_false rfl ?_
    | refine awp_skip ?_
    | (refine awp_exit ?_; simp only [go_sem, Nat.reduceEqDiff])
    | (refine awp_ret ?_; try simp only [inBlock_ret, andThen_ret])
    | ((first | refine hK _ ?_ | (clear hK K; refine hK _ ?_) | (clear hK K; clear hK K; refine hK _ ?_) | (clear hK K; clear hK K; clear hK K; refine hK _ ?_) | (clear hK K; clear hK K; clear hK K; clear hK K; refine hK _ ?_) | (clear hK K; clear hK K; clear hK K; clear hK K; clear hK K; refine hK _ ?_) | (clear hK K; clear hK K; clear hK K; clear hK K; clear hK K; clear hK K; refine hK _ ?_)); clear hK; clear K)
    | refine And.intro (by first | assumption | omega | trivial | rfl | (simp; done)) ?_)
  refine awp_loop (fun n S => ∃ i : Nat, i ≤ xs.length ∧ n = xs.length - i ∧ (∀ (j : Nat) (b : TableR), j < i → xs[j]? = some b → p b = false) ∧
      S = ⟨[.fz (xs.map TableR.av), .fn (.func k) [] cap, .junk, .junk, .junk, .junk, .junk, .int .i64 xs.length, .int .i64 (i : Int), .junk, .junk, .junk, .junk, .junk, .junk, .junk, .junk, .junk, .junk], H⟩) ?_ ?_
  · refine ⟨_, _, weak_junk ?_, 0, Nat.zero_le _, rfl, by omega, rfl⟩
    simp [LeT]
  · rintro n S ⟨i, hi, rfl, hall, rfl⟩
    by_cases hlt : i < xs.length
    · have hw := wrap_succ hlt (by omega)
      have hd : (decide (i < xs.length)) = true := by simpa using hlt
      obtain ⟨a, ha⟩ : ∃ a, xs[i]? = some a := ⟨xs[i], List.getElem?_eq_getElem hlt⟩
      have hl := look_map (g := TableR.av) ha
      repeat' (first
        | ((with_reducible first | refine isWL ?_ | refine isGW ?_ | refine isWQ ?_ | refine isGQ ?_); (first | simp only [go_sem, Nat.reduceAdd, Nat.reduceMul, Nat.reduceLeDiff, Nat.reduceLT, Nat.reduceEqDiff, Int.reduceToNat, Int.reduceLE, Int.reduceLT, List.forall_mem_cons, List.not_mem_nil, false_implies, implies_true, hd, hw, hl, hlt, hc] | simp only [go_sem, Nat.reduceAdd, Nat.reduceMul, Nat.reduceLeDiff, Nat.reduceLT, Nat.reduceEqDiff, Int.reduceToNat, Int.reduceLE, Int.reduceLT, List.forall_mem_cons, List.not_mem_nil, false_implies, implies_true, hd, hw, hl, hlt]))
        | refine awp_seq_k (fun K hK => ?_)
        | refine awp_block ?_
        | refine awp_region_w (by first | (simp; done) | assumption | (simp; omega)) (fun Q hQ => ?_)
        | refine awp_region_q mixed (by kernel_rfl) (by kernel_rfl) rfl (by first | (simp; done) | assumption | (simp; omega)) (fun Q hQ => ?_)
        | refine callW_quiet (hf a (List.mem_of_getElem? ha)) ?_
        | refine callQ_quiet (hf a (List.mem_of_getElem? ha)) ?_
        | refine Both.mk ?_ ?_
        | (refine hQ _ _ ?_; clear hQ Q)
        | (refine hQ _ ?_; clear hQ Q)
        | refine awp_cond_true rfl ?_
        | refine awp_cond_false rfl ?_
        | refine awp_skip ?_
        | (refine awp_exit ?_; simp only [go_sem, Nat.reduceEqDiff])
        | (refine awp_ret ?_; try simp only [inBlock_ret, andThen_ret])
        | ((first | refine hK _ ?_ | (clear hK K; refine hK _ ?_) | (clear hK K; clear hK K; refine hK _ ?_) | (clear hK K; clear hK K; clear hK K; refine hK _ ?_) | (clear hK K; clear hK K; clear hK K; clear hK K; refine hK _ ?_) | (clear hK K; clear hK K; clear hK K; clear hK K; clear hK K; refine hK _ ?_) | (clear hK K; clear hK K; clear hK K; clear hK K; clear hK K; clear hK K; refine hK _ ?_)); clear hK; clear K)
        | refine And.intro (by first | assumption | omega | trivial | rfl | (simp; done)) ?_
        | (refine awp_cond _ rfl (fun hc => ?_) (fun hc => ?_) <;> (try simp only [Bool.not_eq_true', Bool.not_eq_false'] at hc) <;> (try simp only [hc]))
        | (refine gdW_split (fun hc => ?_) (fun hc => ?_) <;> (try simp only [Bool.not_eq_true', Bool.not_eq_false'] at hc))
        | (refine gdQ_split (fun hc => ?_) (fun hc => ?_) <;> (try simp only [Bool.not_eq_true', Bool.not_eq_false'] at hc)))
      · rw [idxOf_at ha hall (by assumption)]
        exact end_quiet0 rfl rfl
      · rw [andThen_normal]
        refine ⟨xs.length - (i + 1), by omega, _, weak_junk ?_, i + 1, by omega, rfl, ?_, rfl⟩
        · simp [LeT]
        · intro j b hj hb
          rcases Nat.lt_or_ge j i with h | h
          · exact hall j b h hb
          · obtain rfl : j = i := by omega
            rw [ha] at hb
            cases hb
            assumption
    · have hd : decide (i < xs.length) = false := by simpa using hlt
      repeat (first
        | ((with_reducible first | refine isWL ?_ | refine isGW ?_ | refine isWQ ?_ | refine isGQ ?_); simp only [go_sem, Nat.reduceAdd, Nat.reduceMul, Nat.reduceLeDiff, Nat.reduceLT, Nat.reduceEqDiff, Int.reduceToNat, Int.reduceLE, Int.reduceLT, List.forall_mem_cons, List.not_mem_nil, false_implies, implies_true, hd])
        | refine awp_seq_k (fun K hK => ?_)
        | refine awp_block ?_
        | refine awp_region_w (by first | (simp; done) | assumption | (simp; omega)) (fun Q hQ => ?_)
        | refine awp_region_q mixed (by kernel_rfl) (by kernel_rfl) rfl (by first | (simp; done) | assumption | (simp; omega)) (fun Q hQ => ?_)
        | refine Both.mk ?_ ?_
        | (refine hQ _ _ ?_; clear hQ Q)
        | (refine hQ _ ?_; clear hQ Q)
        | refine awp_cond_true rfl ?_
        | refine awp_cond_false rfl ?_
        | refine awp_skip ?_
        | (refine awp_exit ?_; simp only [go_sem, Nat.reduceEqDiff])
        | (refine awp_ret ?_; try simp only [inBlock_ret, andThen_ret])
        | ((first | refine hK _ ?_ | (clear hK K; refine hK _ ?_) | (clear hK K; clear hK K; refine hK _ ?_) | (clear hK K; clear hK K; clear hK K; refine hK _ ?_) | (clear hK K; clear hK K; clear hK K; clear hK K; refine hK _ ?_) | (clear hK K; clear hK K; clear hK K; clear hK K; clear hK K; refine hK _ ?_) | (clear hK K; clear hK K; clear hK K; clear hK K; clear hK K; clear hK K; refine hK _ ?_)); clear hK; clear K)
        | refine And.intro (by first | assumption | omega | trivial | rfl | (simp; done)) ?_)
      rw [idxOf_none (fun j b hb => hall j b (by have := lt_of_get hb; omega) hb)]
      exact end_quiet0 rfl rfl

end Go.Proofs.Ytamoclnnakdiaaa.Abs
