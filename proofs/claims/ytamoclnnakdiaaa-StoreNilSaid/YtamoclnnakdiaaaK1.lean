/-
  How large a catalog is, for the laws.
  Conditions: none.
-/
import Derived.Test.YtamoclnnakdiaaaR0
namespace Go.Proofs.Ytamoclnnakdiaaa.Abs
open Go Go.RowKit
set_option linter.unusedVariables false
set_option maxRecDepth 100000
set_option maxHeartbeats 4000000
set_option linter.unusedSimpArgs false

structure MemberR where
  role : List UInt8
  of : List UInt8
@[go_sem] def MemberR.av (m : MemberR) : AV := .agg [.str m.role, .str m.of]
structure GrantR where
  schema : List UInt8
  table : List UInt8
  right : Int
  by_ : List UInt8
  to : List UInt8
  option : Bool
@[go_sem] def GrantR.av (g : GrantR) : AV := .agg [.str g.schema, .str g.table, .int .i64 g.right, .str g.by_, .str g.to, .bool g.option]
structure CatR where
  epoch : Int
  version : Int
  objs : ObjsR
  names : List (List UInt8)
  members : List MemberR
  grants : List GrantR
@[go_sem] def CatR.cells (c : CatR) : List AV := [.int .i64 c.epoch, .int .i64 c.version, .fz (c.objs.schemas.map SchemaR.av), .fz (c.objs.tables.map TableR.av), .fz (c.names.map .str), .fz (c.members.map MemberR.av), .fz (c.grants.map GrantR.av)]
@[simp] theorem below_member (n : Nat) (c : MemberR) : Below' n c.av ↔ True := by simp [MemberR.av]
@[simp] theorem below_grant (n : Nat) (c : GrantR) : Below' n c.av ↔ True := by simp [GrantR.av]

/-- How much is looked at. -/
def largeF : Nat → List RuleR → Nat
  | n, [] => n
  | n, r :: rs => if n ≤ 3000 then largeF (n + r.cols.length) rs else n
theorem largeF_ge : ∀ (rs : List RuleR) (n : Nat), n ≤ largeF n rs
  | [], n => Nat.le_refl _
  | r :: rs, n => by
    simp only [largeF]
    split
    · have := largeF_ge rs (n + r.cols.length); omega
    · exact Nat.le_refl _
theorem largeF_cols : ∀ (rs : List RuleR) (n : Nat), largeF n rs ≤ 3000 → ∀ r, r ∈ rs → r.cols.length ≤ 3000
  | [], n, _, r, hr => by cases hr
  | q :: rs, n, h, r, hr => by
    simp only [largeF] at h
    split at h
    · have := largeF_ge rs (n + q.cols.length)
      rcases List.mem_cons.1 hr with rfl | hr
      · omega
      · exact largeF_cols rs _ h r hr
    · omega

def catF : Nat → List TableR → Nat
  | n, [] => n
  | n, t :: ts => if n ≤ 3000 then catF (largeF (n + t.cols.length + t.rules.length) t.rules) ts else n

theorem keepLarge_q (e v : Int) (ss : List SchemaR) (ts : List TableR) (ns : List (List UInt8)) (ms : List MemberR) (gs : List GrantR) (h1 : ss.length ≤ 140737488351232) (h2 : ts.length ≤ 140737488351232) (h3 : ns.length ≤ 140737488351232) (h4 : ms.length ≤ 140737488351232) (h5 : gs.length ≤ 140737488351232)
    (h6 : ∀ t, t ∈ ts → t.cols.length ≤ 140737488351232 ∧ t.rules.length ≤ 140737488351232 ∧ ∀ r, r ∈ t.rules → r.cols.length ≤ 140737488351232) (H : List AObj) :
    QuietF Go.Proofs.Try.prog 28 [.agg [.int .i64 e, .int .i64 v, .fz (ss.map SchemaR.av), .fz (ts.map TableR.av), .fz (ns.map .str), .fz (ms.map MemberR.av), .fz (gs.map GrantR.av)]] H (.bool (decide (3000 < catF (ss.length + ts.length + ns.length + ms.length + gs.length) ts))) := by
  refine ACallF.of hb_28 (acalls_body Try.func28 rfl ?_)
  intro hB hA
  rw [args0_28]
  have w1 : IntKind.i64.wrap ((ss.length : Int) + (ts.length : Int)) = ((ss.length + ts.length : Nat) : Int) := by rw [wrap64_in (by omega) (by omega)]; omega
  have w2 : IntKind.i64.wrap (((ss.length + ts.length : Nat) : Int) + (ns.length : Int)) = ((ss.length + ts.length + ns.length : Nat) : Int) := by rw [wrap64_in (by omega) (by omega)]; omega
  have w3 : IntKind.i64.wrap (((ss.length + ts.length + ns.length : Nat) : Int) + (ms.length : Int)) = ((ss.length + ts.length + ns.length + ms.length : Nat) : Int) := by rw [wrap64_in (by omega) (by omega)]; omega
  have w4 : IntKind.i64.wrap (((ss.length + ts.length + ns.length + ms.length : Nat) : Int) + (gs.length : Int)) = ((ss.length + ts.length + ns.length + ms.length + gs.length : Nat) : Int) := by rw [wrap64_in (by omega) (by omega)]; omega
  repeat' (first
    | ((with_reducible first | refine isWL ?_ | refine isGW ?_ | refine isWQ ?_ | refine isGQ ?_); (first | simp only [go_sem, Nat.reduceAdd, Nat.reduceMul, Nat.reduceLeDiff, Nat.reduceLT, Nat.reduceEqDiff, Int.reduceToNat, Int.reduceLE, Int.reduceLT, List.forall_mem_cons, List.not_mem_nil, false_implies, implies_true, List.length_map, w1, w2, w3, w4, hc] | simp only [go_sem, Nat.reduceAdd, Nat.reduceMul, Nat.reduceLeDiff, Nat.reduceLT, Nat.reduceEqDiff, Int.reduceToNat, Int.reduceLE, Int.reduceLT, List.forall_mem_cons, List.not_mem_nil, false_implies, implies_true, List.length_map, w1, w2, w3, w4]))
    | refine awp_seq_k (fun K hK => ?_)
    | refine awp_block ?_
    | refine awp_region_w (by first | (simp; done) | assumption | (simp; omega)) (fun Q hQ => ?_)
    | refine awp_region_q mixed (by kernel_rfl) (by kernel_rfl) rfl (by first | (simp; done) | assumption | (simp; omega)) (fun Q hQ => ?_)
    | refine Both.mk ?_ ?_
    | (refine hQ _ _ ?_; clear hQ Q)
    | (refine hQ _ ?_; clear hQ Q)
    | refine awp_cond_true rfl ?_
    | refine awp_cond_false rfl ?_
    | refine awp_skip ?_
    | (refine awp_exit ?_; simp only [go_sem, Nat.reduceEqDiff])
    | (refine awp_ret ?_; try simp only [inBlock_ret, andThen_ret])
    | ((first | refine hK _ ?_ | (clear hK K; refine hK _ ?_) | (clear hK K; clear hK K; refine hK _ ?_) | (clear hK K; clear hK K; clear hK K; refine hK _ ?_) | (clear hK K; clear hK K; clear hK K; clear hK K; refine hK _ ?_) | (clear hK K; clear hK K; clear hK K; clear hK K; clear hK K; refine hK _ ?_) | (clear hK K; clear hK K; clear hK K; clear hK K; clear hK K; clear hK K; refine hK _ ?_)); clear hK; clear K)
    | refine And.intro (by first | assumption | omega | trivial | rfl | (simp; done)) ?_
    | (refine awp_cond _ rfl (fun hc => ?_) (fun hc => ?_) <;> (try simp only [Bool.not_eq_true', Bool.not_eq_false'] at hc) <;> (try simp only [hc]))
    | (refine gdW_split (fun hc => ?_) (fun hc => ?_) <;> (try simp only [Bool.not_eq_true', Bool.not_eq_false'] at hc))
    | (refine gdQ_split (fun hc => ?_) (fun hc => ?_) <;> (try simp only [Bool.not_eq_true', Bool.not_eq_false'] at hc)))
  refine awp_loop_at (fun T n S => ∃ (j : Nat) (q : Nat), (j ≤ ts.length ∧ catF q (ts.drop j) = catF (ss.length + ts.length + ns.length + ms.length + gs.length) ts ∧ q ≤ 1000000000000000) ∧ n = ts.length - j ∧ S = ⟨setT T [(5, .int .i64 (j : Int)), (4, .int .i64 (q : Int)), (6, .junk), (7, .junk), (31, .junk), (32, .junk), (33, .junk), (34, .junk), (35, .junk), (36, .junk), (37, .junk), (38, .junk), (39, .junk), (40, .junk), (41, .junk), (42, .junk), (43, .junk), (44, .junk), (45, .junk), (46, .junk), (47, .junk), (48, .junk), (49, .junk), (50, .junk), (51, .junk), (52, .junk), (53, .junk), (54, .junk), (55, .junk), (56, .junk), (57, .junk), (58, .junk), (59, .junk), (60, .junk), (61, .junk), (62, .junk), (63, .junk), (64, .junk), (65, .junk), (66, .junk), (67, .junk), (68, .junk), (69, .junk), (70, .junk), (71, .junk), (72, .junk), (73, .junk), (74, .junk), (75, .junk)], H ++ [.var [.int .i64 e, .int .i64 v, .fz (ss.map SchemaR.av), .fz (ts.map TableR.av), .fz (ns.map .str), .fz (ms.map MemberR.av), .fz (gs.map GrantR.av)], .var [.fz (ss.map SchemaR.av), .fz (ts.map TableR.av)]]⟩) ?_ ?_
  · refine ⟨_, _, weak_junk ?_, 0, ss.length + ts.length + ns.length + ms.length + gs.length, (by exact ⟨by omega, rfl, by omega⟩), rfl, rfl⟩
    simp only [go_sem]; simp [LeT]
  · rintro n S ⟨j, q, hinv, rfl, rfl⟩
    obtain ⟨hj, hq, hn⟩ := hinv
    by_cases hltj : j < ts.length
    · have hwj := wrap_succ hltj (by omega)
      have hdj : decide (j < ts.length) = true := by simpa using hltj
      obtain ⟨t, ht⟩ : ∃ t, ts[j]? = some t := ⟨_, List.getElem?_eq_getElem hltj⟩
      have hlt0 := look_map (g := TableR.av) ht
      have hmt := List.mem_of_getElem? ht
      obtain ⟨g1, g2, g3⟩ := h6 t hmt
      rw [drop_cons ht] at hq
      simp only [catF] at hq
      by_cases hs : q ≤ 3000
      · have hsd : decide ((q : Int) ≤ 3000) = true := by simp; omega
        rw [if_pos hs] at hq
        have w5 : IntKind.i64.wrap ((q : Int) + (t.cols.length : Int)) = ((q + t.cols.length : Nat) : Int) := by rw [wrap64_in (by omega) (by omega)]; omega
        have w6 : IntKind.i64.wrap (((q + t.cols.length : Nat) : Int) + (t.rules.length : Int)) = ((q + t.cols.length + t.rules.length : Nat) : Int) := by rw [wrap64_in (by omega) (by omega)]; omega
        refine awp_seq_k (fun K hK => ?_)
        repeat (first
          | ((with_reducible first | refine isWL ?_ | refine isGW ?_ | refine isWQ ?_ | refine isGQ ?_); simp only [go_sem, Nat.reduceAdd, Nat.reduceMul, Nat.reduceLeDiff, Nat.reduceLT, Nat.reduceEqDiff, Int.reduceToNat, Int.reduceLE, Int.reduceLT, List.forall_mem_cons, List.not_mem_nil, false_implies, implies_true, hdj, hltj, hsd, List.length_map])
          | refine awp_region_w (by first | (simp; done) | assumption | (simp; omega)) (fun Q hQ => ?_)
          | refine awp_region_q mixed (by kernel_rfl) (by kernel_rfl) rfl (by first | (simp; done) | assumption | (simp; omega)) (fun Q hQ => ?_)
          | refine Both.mk ?_ ?_
          | (refine hQ _ _ ?_; clear hQ Q)
          | (refine hQ _ ?_; clear hQ Q)
          | refine awp_cond_true rfl ?_
          | refine awp_cond_false rfl ?_
          | refine awp_skip ?_
          | (refine awp_exit ?_; simp only [go_sem, Nat.reduceEqDiff])
          | (refine awp_ret ?_; try simp only [inBlock_ret, andThen_ret])
          | ((first | refine hK _ ?_ | (clear hK K; refine hK _ ?_) | (clear hK K; clear hK K; refine hK _ ?_) | (clear hK K; clear hK K; clear hK K; refine hK _ ?_) | (clear hK K; clear hK K; clear hK K; clear hK K; refine hK _ ?_) | (clear hK K; clear hK K; clear hK K; clear hK K; clear hK K; refine hK _ ?_) | (clear hK K; clear hK K; clear hK K; clear hK K; clear hK K; clear hK K; refine hK _ ?_)); clear hK; clear K)
          | refine And.intro (by first | assumption | omega | trivial | rfl | (simp; done)) ?_)
        repeat' (first
          | ((with_reducible first | refine isWL ?_ | refine isGW ?_ | refine isWQ ?_ | refine isGQ ?_); (first | simp only [go_sem, Nat.reduceAdd, Nat.reduceMul, Nat.reduceLeDiff, Nat.reduceLT, Nat.reduceEqDiff, Int.reduceToNat, Int.reduceLE, Int.reduceLT, List.forall_mem_cons, List.not_mem_nil, false_implies, implies_true, hdj, hltj, hlt0, hsd, w5, w6, List.length_map, hc] | simp only [go_sem, Nat.reduceAdd, Nat.reduceMul, Nat.reduceLeDiff, Nat.reduceLT, Nat.reduceEqDiff, Int.reduceToNat, Int.reduceLE, Int.reduceLT, List.forall_mem_cons, List.not_mem_nil, false_implies, implies_true, hdj, hltj, hlt0, hsd, w5, w6, List.length_map]))
          | refine awp_seq_k (fun K hK => ?_)
          | refine awp_block ?_
          | refine awp_region_w (by first | (simp; done) | assumption | (simp; omega)) (fun Q hQ => ?_)
          | refine awp_region_q mixed (by kernel_rfl) (by kernel_rfl) rfl (by first | (simp; done) | assumption | (simp; omega)) (fun Q hQ => ?_)
          | refine Both.mk ?_ ?_
          | (refine hQ _ _ ?_; clear hQ Q)
          | (refine hQ _ ?_; clear hQ Q)
          | refine awp_cond_true rfl ?_
          | refine awp_cond_false rfl ?_
          | refine awp_skip ?_
          | (refine awp_exit ?_; simp only [go_sem, Nat.reduceEqDiff])
          | (refine awp_ret ?_; try simp only [inBlock_ret, andThen_ret])
          | ((first | refine hK _ ?_ | (clear hK K; refine hK _ ?_) | (clear hK K; clear hK K; refine hK _ ?_) | (clear hK K; clear hK K; clear hK K; refine hK _ ?_) | (clear hK K; clear hK K; clear hK K; clear hK K; refine hK _ ?_) | (clear hK K; clear hK K; clear hK K; clear hK K; clear hK K; refine hK _ ?_) | (clear hK K; clear hK K; clear hK K; clear hK K; clear hK K; clear hK K; refine hK _ ?_)); clear hK; clear K)
          | refine And.intro (by first | assumption | omega | trivial | rfl | (simp; done)) ?_
          | (refine awp_cond _ rfl (fun hc => ?_) (fun hc => ?_) <;> (try simp only [Bool.not_eq_true', Bool.not_eq_false'] at hc) <;> (try simp only [hc]))
          | (refine gdW_split (fun hc => ?_) (fun hc => ?_) <;> (try simp only [Bool.not_eq_true', Bool.not_eq_false'] at hc))
          | (refine gdQ_split (fun hc => ?_) (fun hc => ?_) <;> (try simp only [Bool.not_eq_true', Bool.not_eq_false'] at hc)))
        refine awp_loop_at (fun T n S => ∃ (i : Nat) (p : Nat), (i ≤ (t.rules).length ∧ largeF p (t.rules.drop i) = largeF (q + t.cols.length + t.rules.length) t.rules ∧ p ≤ 1000000000000000) ∧ n = (t.rules).length - i ∧ S = ⟨setT T [(7, .int .i64 (i : Int)), (4, .int .i64 (p : Int)), (56, .junk), (57, .junk), (58, .junk), (59, .junk), (60, .junk), (61, .junk), (62, .junk), (63, .junk), (64, .junk), (65, .junk), (66, .junk), (67, .junk), (68, .junk), (69, .junk), (70, .junk), (71, .junk), (72, .junk), (73, .junk), (74, .junk), (75, .junk)], H ++ [.var [.int .i64 e, .int .i64 v, .fz (ss.map SchemaR.av), .fz (ts.map TableR.av), .fz (ns.map .str), .fz (ms.map MemberR.av), .fz (gs.map GrantR.av)], .var [.fz (ss.map SchemaR.av), .fz (ts.map TableR.av)], .var t.cells]⟩) ?_ ?_
        · refine ⟨_, _, weak_junk ?_, 0, q + t.cols.length + t.rules.length, ⟨Nat.zero_le _, by exact ⟨rfl, by omega⟩⟩, rfl, rfl⟩
          simp only [go_sem]; simp [LeT]
        · rintro n S ⟨i, p, ⟨hi, hinv⟩, rfl, rfl⟩
          by_cases hlt : i < (t.rules).length
          · have hw := wrap_succ hlt (by omega)
            have hd : decide (i < (t.rules).length) = true := by simpa using hlt
            obtain ⟨a, ha⟩ : ∃ a, (t.rules)[i]? = some a := ⟨_, List.getElem?_eq_getElem hlt⟩
            have hl := look_map (g := RuleR.av) ha
            have hmem := List.mem_of_getElem? ha
            try rw [drop_cons ha] at hinv
            obtain ⟨hinv, hn2⟩ := hinv
            simp only [largeF] at hinv
            have g4 := g3 a hmem
            by_cases hs2 : p ≤ 3000
            · have hsd2 : decide ((p : Int) ≤ 3000) = true := by simp; omega
              have w7 : IntKind.i64.wrap ((p : Int) + (a.cols.length : Int)) = ((p + a.cols.length : Nat) : Int) := by rw [wrap64_in (by omega) (by omega)]; omega
              rw [if_pos hs2] at hinv
              repeat' (first
                | ((with_reducible first | refine isWL ?_ | refine isGW ?_ | refine isWQ ?_ | refine isGQ ?_); (first | simp only [go_sem, Nat.reduceAdd, Nat.reduceMul, Nat.reduceLeDiff, Nat.reduceLT, Nat.reduceEqDiff, Int.reduceToNat, Int.reduceLE, Int.reduceLT, List.forall_mem_cons, List.not_mem_nil, false_implies, implies_true, hd, hw, hl, hlt, hsd2, w7, List.length_map, hc] | simp only [go_sem, Nat.reduceAdd, Nat.reduceMul, Nat.reduceLeDiff, Nat.reduceLT, Nat.reduceEqDiff, Int.reduceToNat, Int.reduceLE, Int.reduceLT, List.forall_mem_cons, List.not_mem_nil, false_implies, implies_true, hd, hw, hl, hlt, hsd2, w7, List.length_map]))
                | refine awp_seq_k (fun K hK => ?_)
                | refine awp_block ?_
                | refine awp_region_w (by first | (simp; done) | assumption | (simp; omega)) (fun Q hQ => ?_)
                | refine awp_region_q mixed (by kernel_rfl) (by kernel_rfl) rfl (by first | (simp; done) | assumption | (simp; omega)) (fun Q hQ => ?_)
                | refine Both.mk ?_ ?_
                | (refine hQ _ _ ?_; clear hQ Q)
                | (refine hQ _ ?_; clear hQ Q)
                | refine awp_cond_true rfl ?_
                | refine awp_cond_false rfl ?_
                | refine awp_skip ?_
                | (refine awp_exit ?_; simp only [go_sem, Nat.reduceEqDiff])
                | (refine awp_ret ?_; try simp only [inBlock_ret, andThen_ret])
                | ((first | refine hK _ ?_ | (clear hK K; refine hK _ ?_) | (clear hK K; clear hK K; refine hK _ ?_) | (clear hK K; clear hK K; clear hK K; refine hK _ ?_) | (clear hK K; clear hK K; clear hK K; clear hK K; refine hK _ ?_) | (clear hK K; clear hK K; clear hK K; clear hK K; clear hK K; refine hK _ ?_) | (clear hK K; clear hK K; clear hK K; clear hK K; clear hK K; clear hK K; refine hK _ ?_)); clear hK; clear K)
                | refine And.intro (by first | assumption | omega | trivial | rfl | (simp; done)) ?_
                | (refine awp_cond _ rfl (fun hc => ?_) (fun hc => ?_) <;> (try simp only [Bool.not_eq_true', Bool.not_eq_false'] at hc) <;> (try simp only [hc]))
                | (refine gdW_split (fun hc => ?_) (fun hc => ?_) <;> (try simp only [Bool.not_eq_true', Bool.not_eq_false'] at hc))
                | (refine gdQ_split (fun hc => ?_) (fun hc => ?_) <;> (try simp only [Bool.not_eq_true', Bool.not_eq_false'] at hc)))
              rw [andThen_normal]
              refine ⟨(t.rules).length - (i + 1), by omega, _, ?_, i + 1, p + a.cols.length, ⟨by omega, ⟨hinv, by omega⟩⟩, rfl, rfl⟩
              first
                | (refine weak_junk ?_; (try simp only [go_sem]); simp [LeT]; done)
                | (simp only [go_sem, List.map_append, List.map_cons, List.map_nil, List.length_append, List.length_cons, List.length_nil, List.length_map, Nat.zero_add, List.append_assoc, List.cons_append, List.nil_append]; refine weak_junk ?_; simp [LeT]; done)
                | ((try simp only [go_sem, List.map_append, List.map_cons, List.map_nil, List.length_append, List.length_cons, List.length_nil, List.length_map, Nat.zero_add, List.append_assoc, List.cons_append, List.nil_append]); refine weak_cut _ (by first | rfl | (simp only [List.append_assoc, List.cons_append, List.nil_append]; rfl)) (by simp) (by simp [LeT]) (by simp) (by first | exact hB | (refine hB_app hB ?_; simp; done) | (refine hB_app hB ?_; simp [or_imp, forall_and]; done) | (refine hB_app hB ?_; simp; refine forall_set ?_ ?_ <;> simp; done)); done)
            · have hsd2 : decide ((p : Int) ≤ 3000) = false := by simp; omega
              rw [if_neg hs2] at hinv
              repeat' (first
                | ((with_reducible first | refine isWL ?_ | refine isGW ?_ | refine isWQ ?_ | refine isGQ ?_); (first | simp only [go_sem, Nat.reduceAdd, Nat.reduceMul, Nat.reduceLeDiff, Nat.reduceLT, Nat.reduceEqDiff, Int.reduceToNat, Int.reduceLE, Int.reduceLT, List.forall_mem_cons, List.not_mem_nil, false_implies, implies_true, hd, hw, hl, hlt, hsd2, hwj, List.length_map, hc] | simp only [go_sem, Nat.reduceAdd, Nat.reduceMul, Nat.reduceLeDiff, Nat.reduceLT, Nat.reduceEqDiff, Int.reduceToNat, Int.reduceLE, Int.reduceLT, List.forall_mem_cons, List.not_mem_nil, false_implies, implies_true, hd, hw, hl, hlt, hsd2, hwj, List.length_map]))
                | refine awp_seq_k (fun K hK => ?_)
                | refine awp_block ?_
                | refine awp_region_w (by first | (simp; done) | assumption | (simp; omega)) (fun Q hQ => ?_)
                | refine awp_region_q mixed (by kernel_rfl) (by kernel_rfl) rfl (by first | (simp; done) | assumption | (simp; omega)) (fun Q hQ => ?_)
                | refine Both.mk ?_ ?_
                | (refine hQ _ _ ?_; clear hQ Q)
                | (refine hQ _ ?_; clear hQ Q)
                | refine awp_cond_true rfl ?_
                | refine awp_cond_false rfl ?_
                | refine awp_skip ?_
                | (refine awp_exit ?_; simp only [go_sem, Nat.reduceEqDiff])
                | (refine awp_ret ?_; try simp only [inBlock_ret, andThen_ret])
                | ((first | refine hK _ ?_ | (clear hK K; refine hK _ ?_) | (clear hK K; clear hK K; refine hK _ ?_) | (clear hK K; clear hK K; clear hK K; refine hK _ ?_) | (clear hK K; clear hK K; clear hK K; clear hK K; refine hK _ ?_) | (clear hK K; clear hK K; clear hK K; clear hK K; clear hK K; refine hK _ ?_) | (clear hK K; clear hK K; clear hK K; clear hK K; clear hK K; clear hK K; refine hK _ ?_)); clear hK; clear K)
                | refine And.intro (by first | assumption | omega | trivial | rfl | (simp; done)) ?_
                | (refine awp_cond _ rfl (fun hc => ?_) (fun hc => ?_) <;> (try simp only [Bool.not_eq_true', Bool.not_eq_false'] at hc) <;> (try simp only [hc]))
                | (refine gdW_split (fun hc => ?_) (fun hc => ?_) <;> (try simp only [Bool.not_eq_true', Bool.not_eq_false'] at hc))
                | (refine gdQ_split (fun hc => ?_) (fun hc => ?_) <;> (try simp only [Bool.not_eq_true', Bool.not_eq_false'] at hc)))
              rw [andThen_normal]
              refine ⟨ts.length - (j + 1), by omega, _, ?_, j + 1, p, ⟨by omega, by rw [hinv]; exact hq, hn2⟩, rfl, rfl⟩
              first
                | (refine weak_junk ?_; (try simp only [go_sem]); simp [LeT]; done)
                | (simp only [go_sem, List.map_append, List.map_cons, List.map_nil, List.length_append, List.length_cons, List.length_nil, List.length_map, Nat.zero_add, List.append_assoc, List.cons_append, List.nil_append]; refine weak_junk ?_; simp [LeT]; done)
                | ((try simp only [go_sem, List.map_append, List.map_cons, List.map_nil, List.length_append, List.length_cons, List.length_nil, List.length_map, Nat.zero_add, List.append_assoc, List.cons_append, List.nil_append]); refine weak_cut _ (by first | rfl | (simp only [List.append_assoc, List.cons_append, List.nil_append]; rfl)) (by simp) (by simp [LeT]) (by simp) (by first | exact hB | (refine hB_app hB ?_; simp; done) | (refine hB_app hB ?_; simp [or_imp, forall_and]; done) | (refine hB_app hB ?_; simp; refine forall_set ?_ ?_ <;> simp; done)); done)
          · have hd : decide (i < (t.rules).length) = false := by simpa using hlt
            have hnil : (t.rules).drop i = [] := List.drop_eq_nil_of_le (by omega)
            try rw [hnil] at hinv
            obtain ⟨hinv, hn2⟩ := hinv
            simp only [largeF] at hinv
            repeat' (first
              | ((with_reducible first | refine isWL ?_ | refine isGW ?_ | refine isWQ ?_ | refine isGQ ?_); (first | simp only [go_sem, Nat.reduceAdd, Nat.reduceMul, Nat.reduceLeDiff, Nat.reduceLT, Nat.reduceEqDiff, Int.reduceToNat, Int.reduceLE, Int.reduceLT, List.forall_mem_cons, List.not_mem_nil, false_implies, implies_true, hd, hwj, List.length_map, hc] | simp only [go_sem, Nat.reduceAdd, Nat.reduceMul, Nat.reduceLeDiff, Nat.reduceLT, Nat.reduceEqDiff, Int.reduceToNat, Int.reduceLE, Int.reduceLT, List.forall_mem_cons, List.not_mem_nil, false_implies, implies_true, hd, hwj, List.length_map]))
              | refine awp_seq_k (fun K hK => ?_)
              | refine awp_block ?_
              | refine awp_region_w (by first | (simp; done) | assumption | (simp; omega)) (fun Q hQ => ?_)
              | refine awp_region_q mixed (by kernel_rfl) (by kernel_rfl) rfl (by first | (simp; done) | assumption | (simp; omega)) (fun Q hQ => ?_)
              | refine Both.mk ?_ ?_
              | (refine hQ _ _ ?_; clear hQ Q)
              | (refine hQ _ ?_; clear hQ Q)
              | refine awp_cond_true rfl ?_
              | refine awp_cond_false rfl ?_
              | refine awp_skip ?_
              | (refine awp_exit ?_; simp only [go_sem, Nat.reduceEqDiff])
              | (refine awp_ret ?_; try simp only [inBlock_ret, andThen_ret])
              | ((first | refine hK _ ?_ | (clear hK K; refine hK _ ?_) | (clear hK K; clear hK K; refine hK _ ?_) | (clear hK K; clear hK K; clear hK K; refine hK _ ?_) | (clear hK K; clear hK K; clear hK K; clear hK K; refine hK _ ?_) | (clear hK K; clear hK K; clear hK K; clear hK K; clear hK K; refine hK _ ?_) | (clear hK K; clear hK K; clear hK K; clear hK K; clear hK K; clear hK K; refine hK _ ?_)); clear hK; clear K)
              | refine And.intro (by first | assumption | omega | trivial | rfl | (simp; done)) ?_
              | (refine awp_cond _ rfl (fun hc => ?_) (fun hc => ?_) <;> (try simp only [Bool.not_eq_true', Bool.not_eq_false'] at hc) <;> (try simp only [hc]))
              | (refine gdW_split (fun hc => ?_) (fun hc => ?_) <;> (try simp only [Bool.not_eq_true', Bool.not_eq_false'] at hc))
              | (refine gdQ_split (fun hc => ?_) (fun hc => ?_) <;> (try simp only [Bool.not_eq_true', Bool.not_eq_false'] at hc)))
            rw [andThen_normal]
            refine ⟨ts.length - (j + 1), by omega, _, ?_, j + 1, p, ⟨by omega, by rw [hinv]; exact hq, hn2⟩, rfl, rfl⟩
            first
              | (refine weak_junk ?_; (try simp only [go_sem]); simp [LeT]; done)
              | (simp only [go_sem, List.map_append, List.map_cons, List.map_nil, List.length_append, List.length_cons, List.length_nil, List.length_map, Nat.zero_add, List.append_assoc, List.cons_append, List.nil_append]; refine weak_junk ?_; simp [LeT]; done)
              | ((try simp only [go_sem, List.map_append, List.map_cons, List.map_nil, List.length_append, List.length_cons, List.length_nil, List.length_map, Nat.zero_add, List.append_assoc, List.cons_append, List.nil_append]); refine weak_cut _ (by first | rfl | (simp only [List.append_assoc, List.cons_append, List.nil_append]; rfl)) (by simp) (by simp [LeT]) (by simp) (by first | exact hB | (refine hB_app hB ?_; simp; done) | (refine hB_app hB ?_; simp [or_imp, forall_and]; done) | (refine hB_app hB ?_; simp; refine forall_set ?_ ?_ <;> simp; done)); done)
      · have hsd : decide ((q : Int) ≤ 3000) = false := by simp; omega
        rw [if_neg hs] at hq
        have hres : decide (3000 < catF (ss.length + ts.length + ns.length + ms.length + gs.length) ts) = decide ((3000 : Int) < (q : Int)) := by
          rw [← hq, decide_eq_decide]
          omega
        repeat' (first
          | ((with_reducible first | refine isWL ?_ | refine isGW ?_ | refine isWQ ?_ | refine isGQ ?_); (first | simp only [go_sem, Nat.reduceAdd, Nat.reduceMul, Nat.reduceLeDiff, Nat.reduceLT, Nat.reduceEqDiff, Int.reduceToNat, Int.reduceLE, Int.reduceLT, List.forall_mem_cons, List.not_mem_nil, false_implies, implies_true, hdj, hltj, hsd, List.length_map, hc] | simp only [go_sem, Nat.reduceAdd, Nat.reduceMul, Nat.reduceLeDiff, Nat.reduceLT, Nat.reduceEqDiff, Int.reduceToNat, Int.reduceLE, Int.reduceLT, List.forall_mem_cons, List.not_mem_nil, false_implies, implies_true, hdj, hltj, hsd, List.length_map]))
          | refine awp_seq_k (fun K hK => ?_)
          | refine awp_block ?_
          | refine awp_region_w (by first | (simp; done) | assumption | (simp; omega)) (fun Q hQ => ?_)
          | refine awp_region_q mixed (by kernel_rfl) (by kernel_rfl) rfl (by first | (simp; done) | assumption | (simp; omega)) (fun Q hQ => ?_)
          | refine Both.mk ?_ ?_
          | (refine hQ _ _ ?_; clear hQ Q)
          | (refine hQ _ ?_; clear hQ Q)
          | refine awp_cond_true rfl ?_
          | refine awp_cond_false rfl ?_
          | refine awp_skip ?_
          | (refine awp_exit ?_; simp only [go_sem, Nat.reduceEqDiff])
          | (refine awp_ret ?_; try simp only [inBlock_ret, andThen_ret])
          | ((first | refine hK _ ?_ | (clear hK K; refine hK _ ?_) | (clear hK K; clear hK K; refine hK _ ?_) | (clear hK K; clear hK K; clear hK K; refine hK _ ?_) | (clear hK K; clear hK K; clear hK K; clear hK K; refine hK _ ?_) | (clear hK K; clear hK K; clear hK K; clear hK K; clear hK K; refine hK _ ?_) | (clear hK K; clear hK K; clear hK K; clear hK K; clear hK K; clear hK K; refine hK _ ?_)); clear hK; clear K)
          | refine And.intro (by first | assumption | omega | trivial | rfl | (simp; done)) ?_
          | (refine awp_cond _ rfl (fun hc => ?_) (fun hc => ?_) <;> (try simp only [Bool.not_eq_true', Bool.not_eq_false'] at hc) <;> (try simp only [hc]))
          | (refine gdW_split (fun hc => ?_) (fun hc => ?_) <;> (try simp only [Bool.not_eq_true', Bool.not_eq_false'] at hc))
          | (refine gdQ_split (fun hc => ?_) (fun hc => ?_) <;> (try simp only [Bool.not_eq_true', Bool.not_eq_false'] at hc)))
        rw [hres]
        first | exact end_quiet0 rfl rfl | exact end_quiet hB rfl rfl (by simp)
    · have hdj : decide (j < ts.length) = false := by simpa using hltj
      have hnil : ts.drop j = [] := List.drop_eq_nil_of_le (by omega)
      rw [hnil] at hq
      simp only [catF] at hq
      have hres : decide (3000 < catF (ss.length + ts.length + ns.length + ms.length + gs.length) ts) = decide ((3000 : Int) < (q : Int)) := by
        rw [← hq, decide_eq_decide]
        omega
      repeat' (first
        | ((with_reducible first | refine isWL ?_ | refine isGW ?_ | refine isWQ ?_ | refine isGQ ?_); (first | simp only [go_sem, Nat.reduceAdd, Nat.reduceMul, Nat.reduceLeDiff, Nat.reduceLT, Nat.reduceEqDiff, Int.reduceToNat, Int.reduceLE, Int.reduceLT, List.forall_mem_cons, List.not_mem_nil, false_implies, implies_true, hdj, List.length_map, hc] | simp only [go_sem, Nat.reduceAdd, Nat.reduceMul, Nat.reduceLeDiff, Nat.reduceLT, Nat.reduceEqDiff, Int.reduceToNat, Int.reduceLE, Int.reduceLT, List.forall_mem_cons, List.not_mem_nil, false_implies, implies_true, hdj, List.length_map]))
        | refine awp_seq_k (fun K hK => ?_)
        | refine awp_block ?_
        | refine awp_region_w (by first | (simp; done) | assumption | (simp; omega)) (fun Q hQ => ?_)
        | refine awp_region_q mixed (by kernel_rfl) (by kernel_rfl) rfl (by first | (simp; done) | assumption | (simp; omega)) (fun Q hQ => ?_)
        | refine Both.mk ?_ ?_
        | (refine hQ _ _ ?_; clear hQ Q)
        | (refine hQ _ ?_; clear hQ Q)
        | refine awp_cond_true rfl ?_
        | refine awp_cond_false rfl ?_
        | refine awp_skip ?_
        | (refine awp_exit ?_; simp only [go_sem, Nat.reduceEqDiff])
        | (refine awp_ret ?_; try simp only [inBlock_ret, andThen_ret])
        | ((first | refine hK _ ?_ | (clear hK K; refine hK _ ?_) | (clear hK K; clear hK K; refine hK _ ?_) | (clear hK K; clear hK K; clear hK K; refine hK _ ?_) | (clear hK K; clear hK K; clear hK K; clear hK K; refine hK _ ?_) | (clear hK K; clear hK K; clear hK K; clear hK K; clear hK K; refine hK _ ?_) | (clear hK K; clear hK K; clear hK K; clear hK K; clear hK K; clear hK K; refine hK _ ?_)); clear hK; clear K)
        | refine And.intro (by first | assumption | omega | trivial | rfl | (simp; done)) ?_
        | (refine awp_cond _ rfl (fun hc => ?_) (fun hc => ?_) <;> (try simp only [Bool.not_eq_true', Bool.not_eq_false'] at hc) <;> (try simp only [hc]))
        | (refine gdW_split (fun hc => ?_) (fun hc => ?_) <;> (try simp only [Bool.not_eq_true', Bool.not_eq_false'] at hc))
        | (refine gdQ_split (fun hc => ?_) (fun hc => ?_) <;> (try simp only [Bool.not_eq_true', Bool.not_eq_false'] at hc)))
      rw [hres]
      first | exact end_quiet0 rfl rfl | exact end_quiet hB rfl rfl (by simp)

end Go.Proofs.Ytamoclnnakdiaaa.Abs
