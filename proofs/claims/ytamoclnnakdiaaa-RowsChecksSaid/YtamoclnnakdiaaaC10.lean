/-
  Rising names.
  Conditions: none.
-/
import Derived.Test.YtamoclnnakdiaaaC9
namespace Go.Proofs.Ytamoclnnakdiaaa.Abs
open Go Go.RowKit
set_option linter.unusedVariables false
set_option maxRecDepth 100000
set_option maxHeartbeats 4000000
set_option linter.unusedSimpArgs false

def okRise {α : Type} (cmp : α → α → Int) (l : List α) (i : Nat) : Bool :=
  match l[i]?, l[i + 1]? with
  | some a, some b => !decide (0 ≤ cmp a b)
  | _, _ => true
theorem okRise_at {α : Type} {cmp : α → α → Int} {l : List α} {i : Nat} {a b : α} (h1 : l[i]? = some a) (h2 : l[i + 1]? = some b) : okRise cmp l i = !decide (0 ≤ cmp a b) := by
  unfold okRise
  rw [h1, h2]
def risesB {α : Type} (cmp : α → α → Int) (l : List α) : Bool := (List.range (l.length - 1)).all (okRise cmp l)

theorem ruleCmp_q (a b : RuleR) (H : List AObj) : QuietF Go.Proofs.Try.prog 101 [RuleR.av a, RuleR.av b] H (.int .i64 (Go.Lib.compareBytes a.name b.name)) := by
  refine ACallF.of hb_101 (acalls_body Try.func101 rfl ?_)
  intro hB hA
  rw [args0_101]
  repeat' (first
    | ((with_reducible first | refine isWL ?_ | refine isGW ?_ | refine isWQ ?_ | refine isGQ ?_); (first | simp only [go_sem, Nat.reduceAdd, Nat.reduceMul, Nat.reduceLeDiff, Nat.reduceLT, Nat.reduceEqDiff, Int.reduceToNat, Int.reduceLE, Int.reduceLT, List.forall_mem_cons, List.not_mem_nil, false_implies, implies_true, hc] | simp only [go_sem, Nat.reduceAdd, Nat.reduceMul, Nat.reduceLeDiff, Nat.reduceLT, Nat.reduceEqDiff, Int.reduceToNat, Int.reduceLE, Int.reduceLT, List.forall_mem_cons, List.not_mem_nil, false_implies, implies_true]))
    | refine awp_seq_k (fun K hK => ?_)
    | refine awp_block ?_
    | refine awp_region_w (by first | (simp; done) | assumption | (simp; omega)) (fun Q hQ => ?_)
    | refine awp_region_q mixed (by kernel_rfl) (by kernel_rfl) rfl (by first | (simp; done) | assumption | (simp; omega)) (fun Q hQ => ?_)
    | refine callW_quiet (strCompare_q a.name b.name _) ?_
    | refine callQ_quiet (strCompare_q a.name b.name _) ?_
    | refine Both.mk ?_ ?_
    | (refine hQ _ _ ?_; clear hQ Q)
    | (refine hQ _ ?_; clear hQ Q)
    | refine awp_cond_true rfl ?_
    | refine awp_cond_false rfl ?_
    | refine awp_skip ?_
    | (refine awp_exit ?_; simp only [go_sem, Nat.reduceEqDiff])
    | (refine awp_ret ?_; try simp only [inBlock_ret, andThen_ret])
    | ((first | refine hK _ ?_ | (clear hK K; refine hK _ ?_) | (clear hK K; clear hK K; refine hK _ ?_) | (clear hK K; clear hK K; clear hK K; refine hK _ ?_) | (clear hK K; clear hK K; clear hK K; clear hK K; refine hK _ ?_) | (clear hK K; clear hK K; clear hK K; clear hK K; clear hK K; refine hK _ ?_) | (clear hK K; clear hK K; clear hK K; clear hK K; clear hK K; clear hK K; refine hK _ ?_)); clear hK; clear K)
    | refine And.intro (by first | assumption | omega | trivial | rfl | (simp; done)) ?_
    | (refine awp_cond _ rfl (fun hc => ?_) (fun hc => ?_) <;> (try simp only [Bool.not_eq_true', Bool.not_eq_false'] at hc) <;> (try simp only [hc]))
    | (refine gdW_split (fun hc => ?_) (fun hc => ?_) <;> (try simp only [Bool.not_eq_true', Bool.not_eq_false'] at hc))
    | (refine gdQ_split (fun hc => ?_) (fun hc => ?_) <;> (try simp only [Bool.not_eq_true', Bool.not_eq_false'] at hc)))
  exact end_quiet hB rfl rfl (by simp)

theorem schemaCmp_q (a b : SchemaR) (H : List AObj) : QuietF Go.Proofs.Try.prog 72 [SchemaR.av a, SchemaR.av b] H (.int .i64 (Go.Lib.compareBytes a.name b.name)) := by
  refine ACallF.of hb_72 (acalls_body Try.func72 rfl ?_)
  intro hB hA
  rw [args0_72]
  repeat' (first
    | ((with_reducible first | refine isWL ?_ | refine isGW ?_ | refine isWQ ?_ | refine isGQ ?_); (first | simp only [go_sem, Nat.reduceAdd, Nat.reduceMul, Nat.reduceLeDiff, Nat.reduceLT, Nat.reduceEqDiff, Int.reduceToNat, Int.reduceLE, Int.reduceLT, List.forall_mem_cons, List.not_mem_nil, false_implies, implies_true, hc] | simp only [go_sem, Nat.reduceAdd, Nat.reduceMul, Nat.reduceLeDiff, Nat.reduceLT, Nat.reduceEqDiff, Int.reduceToNat, Int.reduceLE, Int.reduceLT, List.forall_mem_cons, List.not_mem_nil, false_implies, implies_true]))
    | refine awp_seq_k (fun K hK => ?_)
    | refine awp_block ?_
    | refine awp_region_w (by first | (simp; done) | assumption | (simp; omega)) (fun Q hQ => ?_)
    | refine awp_region_q mixed (by kernel_rfl) (by kernel_rfl) rfl (by first | (simp; done) | assumption | (simp; omega)) (fun Q hQ => ?_)
    | refine callW_quiet (strCompare_q a.name b.name _) ?_
    | refine callQ_quiet (strCompare_q a.name b.name _) ?_
    | refine Both.mk ?_ ?_
    | (refine hQ _ _ ?_; clear hQ Q)
    | (refine hQ _ ?_; clear hQ Q)
    | refine awp_cond_true rfl ?_
    | refine awp_cond_false rfl ?_
    | refine awp_skip ?_
    | (refine awp_exit ?_; simp only [go_sem, Nat.reduceEqDiff])
    | (refine awp_ret ?_; try simp only [inBlock_ret, andThen_ret])
    | ((first | refine hK _ ?_ | (clear hK K; refine hK _ ?_) | (clear hK K; clear hK K; refine hK _ ?_) | (clear hK K; clear hK K; clear hK K; refine hK _ ?_) | (clear hK K; clear hK K; clear hK K; clear hK K; refine hK _ ?_) | (clear hK K; clear hK K; clear hK K; clear hK K; clear hK K; refine hK _ ?_) | (clear hK K; clear hK K; clear hK K; clear hK K; clear hK K; clear hK K; refine hK _ ?_)); clear hK; clear K)
    | refine And.intro (by first | assumption | omega | trivial | rfl | (simp; done)) ?_
    | (refine awp_cond _ rfl (fun hc => ?_) (fun hc => ?_) <;> (try simp only [Bool.not_eq_true', Bool.not_eq_false'] at hc) <;> (try simp only [hc]))
    | (refine gdW_split (fun hc => ?_) (fun hc => ?_) <;> (try simp only [Bool.not_eq_true', Bool.not_eq_false'] at hc))
    | (refine gdQ_split (fun hc => ?_) (fun hc => ?_) <;> (try simp only [Bool.not_eq_true', Bool.not_eq_false'] at hc)))
  exact end_quiet hB rfl rfl (by simp)

theorem rises_rule (xs : List RuleR) (cmp : RuleR → RuleR → Int) (k : FuncId) (H : List AObj) (hn : xs.length ≤ 140737488351232) (hf : ∀ a b, a ∈ xs → b ∈ xs → QuietF Go.Proofs.Try.prog k [RuleR.av a, RuleR.av b] H (.int .i64 (cmp a b))) :
    QuietF Go.Proofs.Try.prog 100 [.fz (xs.map RuleR.av), .fn (.func k) [] []] H (.bool (risesB cmp xs)) := by
  refine ACallF.of hb_100 (acalls_body Try.func100 rfl ?_)
  intro hB hA
  rw [args0_100]
  have hw1 : IntKind.i64.wrap ((xs.length : Int) - 1) = (xs.length : Int) - 1 := wrap64_in (by omega) (by omega)
  have hmx : (if (xs.length : Int) - 1 > 0 then (xs.length : Int) - 1 else 0) = ((xs.length - 1 : Nat) : Int) := by split <;> omega
  repeat (first
    | ((with_reducible first | refine isWL ?_ | refine isGW ?_ | refine isWQ ?_ | refine isGQ ?_); simp only [go_sem, Nat.reduceAdd, Nat.reduceMul, Nat.reduceLeDiff, Nat.reduceLT, Nat.reduceEqDiff, Int.reduceToNat, Int.reduceLE, Int.reduceLT, List.forall_mem_cons, List.not_mem_nil, false_implies, implies_true, hw1, hmx])
    | refine awp_seq_k (fun K hK => ?_)
    | refine awp_block ?_
    | refine awp_region_w (by first | (simp; done) | assumption | (simp; omega)) (fun Q hQ => ?_)
    | refine awp_region_q mixed (by kernel_rfl) (by kernel_rfl) rfl (by first | (simp; done) | assumption | (simp; omega)) (fun Q hQ => ?_)
    | refine Both.mk ?_ ?_
    | (refine hQ _ _ ?_; clear hQ Q)
    | (refine hQ _ ?_; clear hQ Q)
    | refine awp_cond_true rfl ?_
    | refine awp_cond_false rfl ?_
    | refine awp_skip ?_
    | (refine awp_exit ?_; simp only [go_sem, Nat.reduceEqDiff])
    | (refine awp_ret ?_; try simp only [inBlock_ret, andThen_ret])
    | ((first | refine hK _ ?_ | (clear hK K; refine hK _ ?_) | (clear hK K; clear hK K; refine hK _ ?_) | (clear hK K; clear hK K; clear hK K; refine hK _ ?_) | (clear hK K; clear hK K; clear hK K; clear hK K; refine hK _ ?_) | (clear hK K; clear hK K; clear hK K; clear hK K; clear hK K; refine hK _ ?_) | (clear hK K; clear hK K; clear hK K; clear hK K; clear hK K; clear hK K; refine hK _ ?_)); clear hK; clear K)
    | refine And.intro (by first | assumption | omega | trivial | rfl | (simp; done)) ?_)
  refine awp_loop (fun n S => ∃ i : Nat, i ≤ xs.length - 1 ∧ n = xs.length - 1 - i ∧ (∀ j, j < i → okRise cmp xs j = true) ∧
      S = ⟨[.fz (xs.map RuleR.av), .fn (.func k) [] [], .junk, .junk, .junk, .junk, .junk, .junk, .junk, .int .i64 ((xs.length - 1 : Nat) : Int), .int .i64 (i : Int), .junk, .junk, .junk, .junk, .junk, .junk, .junk, .junk, .junk, .junk, .junk, .junk, .junk, .junk, .junk], H⟩) ?_ ?_
  · refine ⟨_, _, weak_junk ?_, 0, Nat.zero_le _, rfl, by omega, rfl⟩
    simp [LeT]
  · rintro n S ⟨i, hi, rfl, hall, rfl⟩
    by_cases hlt : i < xs.length - 1
    · have hw := wrap_succ hlt (by omega)
      have hd : (decide (i < xs.length - 1)) = true := by simpa using hlt
      obtain ⟨a, ha⟩ : ∃ a, xs[i]? = some a := ⟨xs[i], List.getElem?_eq_getElem (by omega)⟩
      obtain ⟨b, hb⟩ : ∃ b, xs[i + 1]? = some b := ⟨xs[i + 1], List.getElem?_eq_getElem (by omega)⟩
      have hl1 := look_map (g := RuleR.av) ha
      have hl2 := look_map (g := RuleR.av) hb
      have ht : ((i + 1 : Nat) : Int).toNat = i + 1 := Int.toNat_natCast _
      have hs1 : i < xs.length := by omega
      have hs2 : i + 1 < xs.length := by omega
      have hok := okRise_at (cmp := cmp) ha hb
      repeat' (first
        | ((with_reducible first | refine isWL ?_ | refine isGW ?_ | refine isWQ ?_ | refine isGQ ?_); (first | simp only [go_sem, Nat.reduceAdd, Nat.reduceMul, Nat.reduceLeDiff, Nat.reduceLT, Nat.reduceEqDiff, Int.reduceToNat, Int.reduceLE, Int.reduceLT, List.forall_mem_cons, List.not_mem_nil, false_implies, implies_true, hd, hw, hl1, hl2, ht, hs1, hs2, hc] | simp only [go_sem, Nat.reduceAdd, Nat.reduceMul, Nat.reduceLeDiff, Nat.reduceLT, Nat.reduceEqDiff, Int.reduceToNat, Int.reduceLE, Int.reduceLT, List.forall_mem_cons, List.not_mem_nil, false_implies, implies_true, hd, hw, hl1, hl2, ht, hs1, hs2]))
        | refine awp_seq_k (fun K hK => ?_)
        | refine awp_block ?_
        | refine awp_region_w (by first | (simp; done) | assumption | (simp; omega)) (fun Q hQ => ?_)
        | refine awp_region_q mixed (by kernel_rfl) (by kernel_rfl) rfl (by first | (simp; done) | assumption | (simp; omega)) (fun Q hQ => ?_)
        | refine callW_quiet (hf a b (List.mem_of_getElem? ha) (List.mem_of_getElem? hb)) ?_
        | refine callQ_quiet (hf a b (List.mem_of_getElem? ha) (List.mem_of_getElem? hb)) ?_
        | refine Both.mk ?_ ?_
        | (refine hQ _ _ ?_; clear hQ Q)
        | (refine hQ _ ?_; clear hQ Q)
        | refine awp_cond_true rfl ?_
        | refine awp_cond_false rfl ?_
        | refine awp_skip ?_
        | (refine awp_exit ?_; simp only [go_sem, Nat.reduceEqDiff])
        | (refine awp_ret ?_; try simp only [inBlock_ret, andThen_ret])
        | ((first | refine hK _ ?_ | (clear hK K; refine hK _ ?_) | (clear hK K; clear hK K; refine hK _ ?_) | (clear hK K; clear hK K; clear hK K; refine hK _ ?_) | (clear hK K; clear hK K; clear hK K; clear hK K; refine hK _ ?_) | (clear hK K; clear hK K; clear hK K; clear hK K; clear hK K; refine hK _ ?_) | (clear hK K; clear hK K; clear hK K; clear hK K; clear hK K; clear hK K; refine hK _ ?_)); clear hK; clear K)
        | refine And.intro (by first | assumption | omega | trivial | rfl | (simp; done)) ?_
        | (refine awp_cond _ rfl (fun hc => ?_) (fun hc => ?_) <;> (try simp only [Bool.not_eq_true', Bool.not_eq_false'] at hc) <;> (try simp only [hc]))
        | (refine gdW_split (fun hc => ?_) (fun hc => ?_) <;> (try simp only [Bool.not_eq_true', Bool.not_eq_false'] at hc))
        | (refine gdQ_split (fun hc => ?_) (fun hc => ?_) <;> (try simp only [Bool.not_eq_true', Bool.not_eq_false'] at hc)))
      · have hx : risesB cmp xs = false := range_all_false hlt (by rw [hok]; simp only [*, Bool.not_true])
        rw [hx]
        exact end_quiet0 rfl rfl
      · rw [andThen_normal]
        refine ⟨xs.length - 1 - (i + 1), by omega, _, weak_junk ?_, i + 1, by omega, rfl, ?_, rfl⟩
        · simp [LeT]
        · intro j hj
          rcases Nat.lt_or_ge j i with h | h
          · exact hall j h
          · obtain rfl : j = i := by omega
            rw [hok]
            simp only [*, Bool.not_false]
    · have hd : decide (i < xs.length - 1) = false := by simpa using hlt
      repeat (first
        | ((with_reducible first | refine isWL ?_ | refine isGW ?_ | refine isWQ ?_ | refine isGQ ?_); simp only [go_sem, Nat.reduceAdd, Nat.reduceMul, Nat.reduceLeDiff, Nat.reduceLT, Nat.reduceEqDiff, Int.reduceToNat, Int.reduceLE, Int.reduceLT, List.forall_mem_cons, List.not_mem_nil, false_implies, implies_true, hd])
        | refine awp_seq_k (fun K hK => ?_)
        | refine awp_block ?_
        | refine awp_region_w (by first | (simp; done) | assumption | (simp; omega)) (fun Q hQ => ?_)
        | refine awp_region_q mixed (by kernel_rfl) (by kernel_rfl) rfl (by first | (simp; done) | assumption | (simp; omega)) (fun Q hQ => ?_)
        | refine Both.mk ?_ ?_
        | (refine hQ _ _ ?_; clear hQ Q)
        | (refine hQ _ ?_; clear hQ Q)
        | refine awp_cond_true rfl ?_
        | refine awp_cond_false rfl ?_
        | refine awp_skip ?_
        | (refine awp_exit ?_; simp only [go_sem, Nat.reduceEqDiff])
        | (refine awp_ret ?_; try simp only [inBlock_ret, andThen_ret])
        | ((first | refine hK _ ?_ | (clear hK K; refine hK _ ?_) | (clear hK K; clear hK K; refine hK _ ?_) | (clear hK K; clear hK K; clear hK K; refine hK _ ?_) | (clear hK K; clear hK K; clear hK K; clear hK K; refine hK _ ?_) | (clear hK K; clear hK K; clear hK K; clear hK K; clear hK K; refine hK _ ?_) | (clear hK K; clear hK K; clear hK K; clear hK K; clear hK K; clear hK K; refine hK _ ?_)); clear hK; clear K)
        | refine And.intro (by first | assumption | omega | trivial | rfl | (simp; done)) ?_)
      have hx : risesB cmp xs = true := range_all_true (fun j hj => hall j (by omega))
      rw [hx]
      exact end_quiet0 rfl rfl

theorem rises_schema (xs : List SchemaR) (cmp : SchemaR → SchemaR → Int) (k : FuncId) (H : List AObj) (hn : xs.length ≤ 140737488351232) (hf : ∀ a b, a ∈ xs → b ∈ xs → QuietF Go.Proofs.Try.prog k [SchemaR.av a, SchemaR.av b] H (.int .i64 (cmp a b))) :
    QuietF Go.Proofs.Try.prog 71 [.fz (xs.map SchemaR.av), .fn (.func k) [] []] H (.bool (risesB cmp xs)) := by
  refine ACallF.of hb_71 (acalls_body Try.func71 rfl ?_)
  intro hB hA
  rw [args0_71]
  have hw1 : IntKind.i64.wrap ((xs.length : Int) - 1) = (xs.length : Int) - 1 := wrap64_in (by omega) (by omega)
  have hmx : (if (xs.length : Int) - 1 > 0 then (xs.length : Int) - 1 else 0) = ((xs.length - 1 : Nat) : Int) := by split <;> omega
  repeat (first
    | ((with_reducible first | refine isWL ?_ | refine isGW ?_ | refine isWQ ?_ | refine isGQ ?_); simp only [go_sem, Nat.reduceAdd, Nat.reduceMul, Nat.reduceLeDiff, Nat.reduceLT, Nat.reduceEqDiff, Int.reduceToNat, Int.reduceLE, Int.reduceLT, List.forall_mem_cons, List.not_mem_nil, false_implies, implies_true, hw1, hmx])
    | refine awp_seq_k (fun K hK => ?_)
    | refine awp_block ?_
    | refine awp_region_w (by first | (simp; done) | assumption | (simp; omega)) (fun Q hQ => ?_)
    | refine awp_region_q mixed (by kernel_rfl) (by kernel_rfl) rfl (by first | (simp; done) | assumption | (simp; omega)) (fun Q hQ => ?_)
    | refine Both.mk ?_ ?_
    | (refine hQ _ _ ?_; clear hQ Q)
    | (refine hQ _ ?_; clear hQ Q)
    | refine awp_cond_true rfl ?_
    | refine awp_cond_false rfl ?_
    | refine awp_skip ?_
    | (refine awp_exit ?_; simp only [go_sem, Nat.reduceEqDiff])
    | (refine awp_ret ?_; try simp only [inBlock_ret, andThen_ret])
    | ((first | refine hK _ ?_ | (clear hK K; refine hK _ ?_) | (clear hK K; clear hK K; refine hK _ ?_) | (clear hK K; clear hK K; clear hK K; refine hK _ ?_) | (clear hK K; clear hK K; clear hK K; clear hK K; refine hK _ ?_) | (clear hK K; clear hK K; clear hK K; clear hK K; clear hK K; refine hK _ ?_) | (clear hK K; clear hK K; clear hK K; clear hK K; clear hK K; clear hK K; refine hK _ ?_)); clear hK; clear K)
    | refine And.intro (by first | assumption | omega | trivial | rfl | (simp; done)) ?_)
  refine awp_loop (fun n S => ∃ i : Nat, i ≤ xs.length - 1 ∧ n = xs.length - 1 - i ∧ (∀ j, j < i → okRise cmp xs j = true) ∧
      S = ⟨[.fz (xs.map SchemaR.av), .fn (.func k) [] [], .junk, .junk, .junk, .junk, .junk, .junk, .junk, .int .i64 ((xs.length - 1 : Nat) : Int), .int .i64 (i : Int), .junk, .junk, .junk, .junk, .junk, .junk, .junk, .junk, .junk, .junk, .junk, .junk, .junk, .junk, .junk], H⟩) ?_ ?_
  · refine ⟨_, _, weak_junk ?_, 0, Nat.zero_le _, rfl, by omega, rfl⟩
    simp [LeT]
  · rintro n S ⟨i, hi, rfl, hall, rfl⟩
    by_cases hlt : i < xs.length - 1
    · have hw := wrap_succ hlt (by omega)
      have hd : (decide (i < xs.length - 1)) = true := by simpa using hlt
      obtain ⟨a, ha⟩ : ∃ a, xs[i]? = some a := ⟨xs[i], List.getElem?_eq_getElem (by omega)⟩
      obtain ⟨b, hb⟩ : ∃ b, xs[i + 1]? = some b := ⟨xs[i + 1], List.getElem?_eq_getElem (by omega)⟩
      have hl1 := look_map (g := SchemaR.av) ha
      have hl2 := look_map (g := SchemaR.av) hb
      have ht : ((i + 1 : Nat) : Int).toNat = i + 1 := Int.toNat_natCast _
      have hs1 : i < xs.length := by omega
      have hs2 : i + 1 < xs.length := by omega
      have hok := okRise_at (cmp := cmp) ha hb
      repeat' (first
        | ((with_reducible first | refine isWL ?_ | refine isGW ?_ | refine isWQ ?_ | refine isGQ ?_); (first | simp only [go_sem, Nat.reduceAdd, Nat.reduceMul, Nat.reduceLeDiff, Nat.reduceLT, Nat.reduceEqDiff, Int.reduceToNat, Int.reduceLE, Int.reduceLT, List.forall_mem_cons, List.not_mem_nil, false_implies, implies_true, hd, hw, hl1, hl2, ht, hs1, hs2, hc] | simp only [go_sem, Nat.reduceAdd, Nat.reduceMul, Nat.reduceLeDiff, Nat.reduceLT, Nat.reduceEqDiff, Int.reduceToNat, Int.reduceLE, Int.reduceLT, List.forall_mem_cons, List.not_mem_nil, false_implies, implies_true, hd, hw, hl1, hl2, ht, hs1, hs2]))
        | refine awp_seq_k (fun K hK => ?_)
        | refine awp_block ?_
        | refine awp_region_w (by first | (simp; done) | assumption | (simp; omega)) (fun Q hQ => ?_)
        | refine awp_region_q mixed (by kernel_rfl) (by kernel_rfl) rfl (by first | (simp; done) | assumption | (simp; omega)) (fun Q hQ => ?_)
        | refine callW_quiet (hf a b (List.mem_of_getElem? ha) (List.mem_of_getElem? hb)) ?_
        | refine callQ_quiet (hf a b (List.mem_of_getElem? ha) (List.mem_of_getElem? hb)) ?_
        | refine Both.mk ?_ ?_
        | (refine hQ _ _ ?_; clear hQ Q)
        | (refine hQ _ ?_; clear hQ Q)
        | refine awp_cond_true rfl ?_
        | refine awp_cond_false rfl ?_
        | refine awp_skip ?_
        | (refine awp_exit ?_; simp only [go_sem, Nat.reduceEqDiff])
        | (refine awp_ret ?_; try simp only [inBlock_ret, andThen_ret])
        | ((first | refine hK _ ?_ | (clear hK K; refine hK _ ?_) | (clear hK K; clear hK K; refine hK _ ?_) | (clear hK K; clear hK K; clear hK K; refine hK _ ?_) | (clear hK K; clear hK K; clear hK K; clear hK K; refine hK _ ?_) | (clear hK K; clear hK K; clear hK K; clear hK K; clear hK K; refine hK _ ?_) | (clear hK K; clear hK K; clear hK K; clear hK K; clear hK K; clear hK K; refine hK _ ?_)); clear hK; clear K)
        | refine And.intro (by first | assumption | omega | trivial | rfl | (simp; done)) ?_
        | (refine awp_cond _ rfl (fun hc => ?_) (fun hc => ?_) <;> (try simp only [Bool.not_eq_true', Bool.not_eq_false'] at hc) <;> (try simp only [hc]))
        | (refine gdW_split (fun hc => ?_) (fun hc => ?_) <;> (try simp only [Bool.not_eq_true', Bool.not_eq_false'] at hc))
        | (refine gdQ_split (fun hc => ?_) (fun hc => ?_) <;> (try simp only [Bool.not_eq_true', Bool.not_eq_false'] at hc)))
      · have hx : risesB cmp xs = false := range_all_false hlt (by rw [hok]; simp only [*, Bool.not_true])
        rw [hx]
        exact end_quiet0 rfl rfl
      · rw [andThen_normal]
        refine ⟨xs.length - 1 - (i + 1), by omega, _, weak_junk ?_, i + 1, by omega, rfl, ?_, rfl⟩
        · simp [LeT]
        · intro j hj
          rcases Nat.lt_or_ge j i with h | h
          · exact hall j h
          · obtain rfl : j = i := by omega
            rw [hok]
            simp only [*, Bool.not_false]
    · have hd : decide (i < xs.length - 1) = false := by simpa using hlt
      repeat (first
        | ((with_reducible first | refine isWL ?_ | refine isGW ?_ | refine isWQ ?_ | refine isGQ ?_); simp only [go_sem, Nat.reduceAdd, Nat.reduceMul, Nat.reduceLeDiff, Nat.reduceLT, Nat.reduceEqDiff, Int.reduceToNat, Int.reduceLE, Int.reduceLT, List.forall_mem_cons, List.not_mem_nil, false_implies, implies_true, hd])
        | refine awp_seq_k (fun K hK => ?_)
        | refine awp_block ?_
        | refine awp_region_w (by first | (simp; done) | assumption | (simp; omega)) (fun Q hQ => ?_)
        | refine awp_region_q mixed (by kernel_rfl) (by kernel_rfl) rfl (by first | (simp; done) | assumption | (simp; omega)) (fun Q hQ => ?_)
        | refine Both.mk ?_ ?_
        | (refine hQ _ _ ?_; clear hQ Q)
        | (refine hQ _ ?_; clear hQ Q)
        | refine awp_cond_true rfl ?_
        | refine awp_cond_false rfl ?_
        | refine awp_skip ?_
        | (refine awp_exit ?_; simp only [go_sem, Nat.reduceEqDiff])
        | (refine awp_ret ?_; try simp only [inBlock_ret, andThen_ret])
        | ((first | refine hK _ ?_ | (clear hK K; refine hK _ ?_) | (clear hK K; clear hK K; refine hK _ ?_) | (clear hK K; clear hK K; clear hK K; refine hK _ ?_) | (clear hK K; clear hK K; clear hK K; clear hK K; refine hK _ ?_) | (clear hK K; clear hK K; clear hK K; clear hK K; clear hK K; refine hK _ ?_) | (clear hK K; clear hK K; clear hK K; clear hK K; clear hK K; clear hK K; refine hK _ ?_)); clear hK; clear K)
        | refine And.intro (by first | assumption | omega | trivial | rfl | (simp; done)) ?_)
      have hx : risesB cmp xs = true := range_all_true (fun j hj => hall j (by omega))
      rw [hx]
      exact end_quiet0 rfl rfl

theorem rises_table (xs : List TableR) (cmp : TableR → TableR → Int) (k : FuncId) (H : List AObj) (hn : xs.length ≤ 140737488351232) (hf : ∀ a b, a ∈ xs → b ∈ xs → QuietF Go.Proofs.Try.prog k [TableR.av a, TableR.av b] H (.int .i64 (cmp a b))) :
    QuietF Go.Proofs.Try.prog 69 [.fz (xs.map TableR.av), .fn (.func k) [] []] H (.bool (risesB cmp xs)) := by
  refine ACallF.of hb_69 (acalls_body Try.func69 rfl ?_)
  intro hB hA
  rw [args0_69]
  have hw1 : IntKind.i64.wrap ((xs.length : Int) - 1) = (xs.length : Int) - 1 := wrap64_in (by omega) (by omega)
  have hmx : (if (xs.length : Int) - 1 > 0 then (xs.length : Int) - 1 else 0) = ((xs.length - 1 : Nat) : Int) := by split <;> omega
  repeat (first
    | ((with_reducible first | refine isWL ?_ | refine isGW ?_ | refine isWQ ?_ | refine isGQ ?_); simp only [go_sem, Nat.reduceAdd, Nat.reduceMul, Nat.reduceLeDiff, Nat.reduceLT, Nat.reduceEqDiff, Int.reduceToNat, Int.reduceLE, Int.reduceLT, List.forall_mem_cons, List.not_mem_nil, false_implies, implies_true, hw1, hmx])
    | refine awp_seq_k (fun K hK => ?_)
    | refine awp_block ?_
    | refine awp_region_w (by first | (simp; done) | assumption | (simp; omega)) (fun Q hQ => ?_)
    | refine awp_region_q mixed (by kernel_rfl) (by kernel_rfl) rfl (by first | (simp; done) | assumption | (simp; omega)) (fun Q hQ => ?_)
    | refine Both.mk ?_ ?_
    | (refine hQ _ _ ?_; clear hQ Q)
    | (refine hQ _ ?_; clear hQ Q)
    | refine awp_cond_true rfl ?_
    | refine awp_cond_false rfl ?_
    | refine awp_skip ?_
    | (refine awp_exit ?_; simp only [go_sem, Nat.reduceEqDiff])
    | (refine awp_ret ?_; try simp only [inBlock_ret, andThen_ret])
    | ((first | refine hK _ ?_ | (clear hK K; refine hK _ ?_) | (clear hK K; clear hK K; refine hK _ ?_) | (clear hK K; clear hK K; clear hK K; refine hK _ ?_) | (clear hK K; clear hK K; clear hK K; clear hK K; refine hK _ ?_) | (clear hK K; clear hK K; clear hK K; clear hK K; clear hK K; refine hK _ ?_) | (clear hK K; clear hK K; clear hK K; clear hK K; clear hK K; clear hK K; refine hK _ ?_)); clear hK; clear K)
    | refine And.intro (by first | assumption | omega | trivial | rfl | (simp; done)) ?_)
  refine awp_loop (fun n S => ∃ i : Nat, i ≤ xs.length - 1 ∧ n = xs.length - 1 - i ∧ (∀ j, j < i → okRise cmp xs j = true) ∧
      S = ⟨[.fz (xs.map TableR.av), .fn (.func k) [] [], .junk, .junk, .junk, .junk, .junk, .junk, .junk, .int .i64 ((xs.length - 1 : Nat) : Int), .int .i64 (i : Int), .junk, .junk, .junk, .junk, .junk, .junk, .junk, .junk, .junk, .junk, .junk, .junk, .junk, .junk, .junk], H⟩) ?_ ?_
  · refine ⟨_, _, weak_junk ?_, 0, Nat.zero_le _, rfl, by omega, rfl⟩
    simp [LeT]
  · rintro n S ⟨i, hi, rfl, hall, rfl⟩
    by_cases hlt : i < xs.length - 1
    · have hw := wrap_succ hlt (by omega)
      have hd : (decide (i < xs.length - 1)) = true := by simpa using hlt
      obtain ⟨a, ha⟩ : ∃ a, xs[i]? = some a := ⟨xs[i], List.getElem?_eq_getElem (by omega)⟩
      obtain ⟨b, hb⟩ : ∃ b, xs[i + 1]? = some b := ⟨xs[i + 1], List.getElem?_eq_getElem (by omega)⟩
      have hl1 := look_map (g := TableR.av) ha
      have hl2 := look_map (g := TableR.av) hb
      have ht : ((i + 1 : Nat) : Int).toNat = i + 1 := Int.toNat_natCast _
      have hs1 : i < xs.length := by omega
      have hs2 : i + 1 < xs.length := by omega
      have hok := okRise_at (cmp := cmp) ha hb
      repeat' (first
        | ((with_reducible first | refine isWL ?_ | refine isGW ?_ | refine isWQ ?_ | refine isGQ ?_); (first | simp only [go_sem, Nat.reduceAdd, Nat.reduceMul, Nat.reduceLeDiff, Nat.reduceLT, Nat.reduceEqDiff, Int.reduceToNat, Int.reduceLE, Int.reduceLT, List.forall_mem_cons, List.not_mem_nil, false_implies, implies_true, hd, hw, hl1, hl2, ht, hs1, hs2, hc] | simp only [go_sem, Nat.reduceAdd, Nat.reduceMul, Nat.reduceLeDiff, Nat.reduceLT, Nat.reduceEqDiff, Int.reduceToNat, Int.reduceLE, Int.reduceLT, List.forall_mem_cons, List.not_mem_nil, false_implies, implies_true, hd, hw, hl1, hl2, ht, hs1, hs2]))
        | refine awp_seq_k (fun K hK => ?_)
        | refine awp_block ?_
        | refine awp_region_w (by first | (simp; done) | assumption | (simp; omega)) (fun Q hQ => ?_)
        | refine awp_region_q mixed (by kernel_rfl) (by kernel_rfl) rfl (by first | (simp; done) | assumption | (simp; omega)) (fun Q hQ => ?_)
        | refine callW_quiet (hf a b (List.mem_of_getElem? ha) (List.mem_of_getElem? hb)) ?_
        | refine callQ_quiet (hf a b (List.mem_of_getElem? ha) (List.mem_of_getElem? hb)) ?_
        | refine Both.mk ?_ ?_
        | (refine hQ _ _ ?_; clear hQ Q)
        | (refine hQ _ ?_; clear hQ Q)
        | refine awp_cond_true rfl ?_
        | refine awp_cond_false rfl ?_
        | refine awp_skip ?_
        | (refine awp_exit ?_; simp only [go_sem, Nat.reduceEqDiff])
        | (refine awp_ret ?_; try simp only [inBlock_ret, andThen_ret])
        | ((first | refine hK _ ?_ | (clear hK K; refine hK _ ?_) | (clear hK K; clear hK K; refine hK _ ?_) | (clear hK K; clear hK K; clear hK K; refine hK _ ?_) | (clear hK K; clear hK K; clear hK K; clear hK K; refine hK _ ?_) | (clear hK K; clear hK K; clear hK K; clear hK K; clear hK K; refine hK _ ?_) | (clear hK K; clear hK K; clear hK K; clear hK K; clear hK K; clear hK K; refine hK _ ?_)); clear hK; clear K)
        | refine And.intro (by first | assumption | omega | trivial | rfl | (simp; done)) ?_
        | (refine awp_cond _ rfl (fun hc => ?_) (fun hc => ?_) <;> (try simp only [Bool.not_eq_true', Bool.not_eq_false'] at hc) <;> (try simp only [hc]))
        | (refine gdW_split (fun hc => ?_) (fun hc => ?_) <;> (try simp only [Bool.not_eq_true', Bool.not_eq_false'] at hc))
        | (refine gdQ_split (fun hc => ?_) (fun hc => ?_) <;> (try simp only [Bool.not_eq_true', Bool.not_eq_false'] at hc)))
      · have hx : risesB cmp xs = false := range_all_false hlt (by rw [hok]; simp only [*, Bool.not_true])
        rw [hx]
        exact end_quiet0 rfl rfl
      · rw [andThen_normal]
        refine ⟨xs.length - 1 - (i + 1), by omega, _, weak_junk ?_, i + 1, by omega, rfl, ?_, rfl⟩
        · simp [LeT]
        · intro j hj
          rcases Nat.lt_or_ge j i with h | h
          · exact hall j h
          · obtain rfl : j = i := by omega
            rw [hok]
            simp only [*, Bool.not_false]
    · have hd : decide (i < xs.length - 1) = false := by simpa using hlt
      repeat (first
        | ((with_reducible first | refine isWL ?_ | refine isGW ?_ | refine isWQ ?_ | refine isGQ ?_); simp only [go_sem, Nat.reduceAdd, Nat.reduceMul, Nat.reduceLeDiff, Nat.reduceLT, Nat.reduceEqDiff, Int.reduceToNat, Int.reduceLE, Int.reduceLT, List.forall_mem_cons, List.not_mem_nil, false_implies, implies_true, hd])
        | refine awp_seq_k (fun K hK => ?_)
        | refine awp_block ?_
        | refine awp_region_w (by first | (simp; done) | assumption | (simp; omega)) (fun Q hQ => ?_)
        | refine awp_region_q mixed (by kernel_rfl) (by kernel_rfl) rfl (by first | (simp; done) | assumption | (simp; omega)) (fun Q hQ => ?_)
        | refine Both.mk ?_ ?_
        | (refine hQ _ _ ?_; clear hQ Q)
        | (refine hQ _ ?_; clear hQ Q)
        | refine awp_cond_true rfl ?_
        | refine awp_cond_false rfl ?_
        | refine awp_skip ?_
        | (refine awp_exit ?_; simp only [go_sem, Nat.reduceEqDiff])
        | (refine awp_ret ?_; try simp only [inBlock_ret, andThen_ret])
        | ((first | refine hK _ ?_ | (clear hK K; refine hK _ ?_) | (clear hK K; clear hK K; refine hK _ ?_) | (clear hK K; clear hK K; clear hK K; refine hK _ ?_) | (clear hK K; clear hK K; clear hK K; clear hK K; refine hK _ ?_) | (clear hK K; clear hK K; clear hK K; clear hK K; clear hK K; refine hK _ ?_) | (clear hK K; clear hK K; clear hK K; clear hK K; clear hK K; clear hK K; refine hK _ ?_)); clear hK; clear K)
        | refine And.intro (by first | assumption | omega | trivial | rfl | (simp; done)) ?_)
      have hx : risesB cmp xs = true := range_all_true (fun j hj => hall j (by omega))
      rw [hx]
      exact end_quiet0 rfl rfl

end Go.Proofs.Ytamoclnnakdiaaa.Abs
