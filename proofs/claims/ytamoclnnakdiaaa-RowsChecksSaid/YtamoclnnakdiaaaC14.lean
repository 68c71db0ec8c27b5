/-
  Lists that are compared; a foreign rule's key.
  Conditions: none.
-/
import Derived.Test.YtamoclnnakdiaaaC13
namespace Go.Proofs.Ytamoclnnakdiaaa.Abs
open Go Go.RowKit
set_option linter.unusedVariables false
set_option maxRecDepth 100000
set_option maxHeartbeats 4000000
set_option linter.unusedSimpArgs false

def eqL {α : Type} (eq : α → α → Bool) : List α → List α → Bool
  | [], [] => true
  | a :: r, b :: q => eq a b && eqL eq r q
  | _, _ => false

theorem eqL_len {α : Type} {eq : α → α → Bool} : ∀ {xs ys : List α}, xs.length ≠ ys.length → eqL eq xs ys = false
  | [], [], h => absurd rfl h
  | [], _ :: _, _ => rfl
  | _ :: _, [], _ => rfl
  | a :: r, b :: q, h => by
    simp only [eqL, eqL_len (xs := r) (ys := q) (by simpa using h), Bool.and_false]

theorem equal_kind (xs ys : List Int) (hn : xs.length ≤ 140737488351232) (H : List AObj) : QuietF Go.Proofs.Try.prog 122 [.fz (xs.map (AV.int .i64)), .fz (ys.map (AV.int .i64))] H (.bool (eqL (fun a b => a == b) xs ys)) := by
  refine ACallF.of hb_122 (acalls_body Try.func122 rfl ?_)
  intro hB hA
  rw [args0_122]
  repeat' (first
    | ((with_reducible first | refine isWL ?_ | refine isGW ?_ | refine isWQ ?_ | refine isGQ ?_); (first | simp only [go_sem, Nat.reduceAdd, Nat.reduceMul, Nat.reduceLeDiff, Nat.reduceLT, Nat.reduceEqDiff, Int.reduceToNat, Int.reduceLE, Int.reduceLT, List.forall_mem_cons, List.not_mem_nil, false_implies, implies_true, List.length_map, hc] | simp only [go_sem, Nat.reduceAdd, Nat.reduceMul, Nat.reduceLeDiff, Nat.reduceLT, Nat.reduceEqDiff, Int.reduceToNat, Int.reduceLE, Int.reduceLT, List.forall_mem_cons, List.not_mem_nil, false_implies, implies_true, List.length_map]))
    | refine awp_seq_k (fun K hK => ?_)
    | refine awp_block ?_
    | refine awp_region_w (by first | (simp; done) | assumption | (simp; omega)) (fun Q hQ => ?_)
    | refine awp_region_q mixed (by kernel_rfl) (by kernel_rfl) rfl (by first | (simp; done) | assumption | (simp; omega)) (fun Q hQ => ?_)
    | refine Both.mk ?_ ?_
    | (refine hQ _ _ ?_; clear hQ Q)
    | (refine hQ _ ?_; clear hQ Q)
    | refine awp_cond_true rfl ?_
    | refine awp_cond_false rfl ?_
    | refine awp_skip ?_
    | (refine awp_exit ?_; simp only [go_sem, Nat.reduceEqDiff])
    | (refine awp_ret ?_; try simp only [inBlock_ret, andThen_ret])
    | ((first | refine hK _ ?_ | (clear hK K; refine hK _ ?_) | (clear hK K; clear hK K; refine hK _ ?_) | (clear hK K; clear hK K; clear hK K; refine hK _ ?_) | (clear hK K; clear hK K; clear hK K; clear hK K; refine hK _ ?_) | (clear hK K; clear hK K; clear hK K; clear hK K; clear hK K; refine hK _ ?_) | (clear hK K; clear hK K; clear hK K; clear hK K; clear hK K; clear hK K; refine hK _ ?_)); clear hK; clear K)
    | refine And.intro (by first | assumption | omega | trivial | rfl | (simp; done)) ?_
    | (refine awp_cond _ rfl (fun hc => ?_) (fun hc => ?_) <;> (try simp only [Bool.not_eq_true', Bool.not_eq_false'] at hc) <;> (try simp only [hc]))
    | (refine gdW_split (fun hc => ?_) (fun hc => ?_) <;> (try simp only [Bool.not_eq_true', Bool.not_eq_false'] at hc))
    | (refine gdQ_split (fun hc => ?_) (fun hc => ?_) <;> (try simp only [Bool.not_eq_true', Bool.not_eq_false'] at hc)))
  · have : xs.length ≠ ys.length := by simp only [beq_eq_false_iff_ne, ne_eq] at *; omega
    rw [eqL_len this]
    exact end_quiet0 rfl rfl
  · have hlen : xs.length = ys.length := by simp only [beq_iff_eq] at *; omega
    refine awp_loop_at (fun T n S => ∃ (i : Nat) , (i ≤ (xs).length ∧ eqL (fun a b => a == b) (xs.drop i) (ys.drop i) = eqL (fun a b => a == b) xs ys) ∧ n = (xs).length - i ∧ S = ⟨setT T [(13, .int .i64 (i : Int)), (4, .junk), (5, .junk), (14, .junk), (15, .junk), (16, .junk), (17, .junk), (18, .junk), (19, .junk), (20, .junk), (21, .junk), (22, .junk), (23, .junk), (24, .junk), (25, .junk)], H⟩) ?_ ?_
    · refine ⟨_, _, weak_junk ?_, 0, ⟨Nat.zero_le _, by first | rfl | assumption | (simp; done) | trivial⟩, rfl, rfl⟩
      simp only [go_sem]; simp [LeT]
    · rintro n S ⟨i, ⟨hi, hinv⟩, rfl, rfl⟩
      by_cases hlt : i < (xs).length
      · have hw := wrap_succ hlt (by omega)
        have hd : decide (i < (xs).length) = true := by simpa using hlt
        obtain ⟨a, ha⟩ : ∃ a, (xs)[i]? = some a := ⟨_, List.getElem?_eq_getElem hlt⟩
        have hl := look_map (g := AV.int .i64) ha
        have hmem := List.mem_of_getElem? ha
        try rw [drop_cons ha] at hinv
        obtain ⟨b, hb⟩ : ∃ b, ys[i]? = some b := ⟨_, List.getElem?_eq_getElem (by omega)⟩
        have hl2 := look_map (g := AV.int .i64) hb
        have hlt2 : i < ys.length := by omega
        rw [drop_cons hb] at hinv
        simp only [eqL] at hinv
        repeat' (first
          | ((with_reducible first | refine isWL ?_ | refine isGW ?_ | refine isWQ ?_ | refine isGQ ?_); (first | simp only [go_sem, Nat.reduceAdd, Nat.reduceMul, Nat.reduceLeDiff, Nat.reduceLT, Nat.reduceEqDiff, Int.reduceToNat, Int.reduceLE, Int.reduceLT, List.forall_mem_cons, List.not_mem_nil, false_implies, implies_true, hd, hw, hl, hl2, hlt, hlt2, List.length_map, hc] | simp only [go_sem, Nat.reduceAdd, Nat.reduceMul, Nat.reduceLeDiff, Nat.reduceLT, Nat.reduceEqDiff, Int.reduceToNat, Int.reduceLE, Int.reduceLT, List.forall_mem_cons, List.not_mem_nil, false_implies, implies_true, hd, hw, hl, hl2, hlt, hlt2, List.length_map]))
          | refine awp_seq_k (fun K hK => ?_)
          | refine awp_block ?_
          | refine awp_region_w (by first | (simp; done) | assumption | (simp; omega)) (fun Q hQ => ?_)
          | refine awp_region_q mixed (by kernel_rfl) (by kernel_rfl) rfl (by first | (simp; done) | assumption | (simp; omega)) (fun Q hQ => ?_)
          | refine Both.mk ?_ ?_
          | (refine hQ _ _ ?_; clear hQ Q)
          | (refine hQ _ ?_; clear hQ Q)
          | refine awp_cond_true rfl ?_
          | refine awp_cond_false rfl ?_
          | refine awp_skip ?_
          | (refine awp_exit ?_; simp only [go_sem, Nat.reduceEqDiff])
          | (refine awp_ret ?_; try simp only [inBlock_ret, andThen_ret])
          | ((first | refine hK _ ?_ | (clear hK K; refine hK _ ?_) | (clear hK K; clear hK K; refine hK _ ?_) | (clear hK K; clear hK K; clear hK K; refine hK _ ?_) | (clear hK K; clear hK K; clear hK K; clear hK K; refine hK _ ?_) | (clear hK K; clear hK K; clear hK K; clear hK K; clear hK K; refine hK _ ?_) | (clear hK K; clear hK K; clear hK K; clear hK K; clear hK K; clear hK K; refine hK _ ?_)); clear hK; clear K)
          | refine And.intro (by first | assumption | omega | trivial | rfl | (simp; done)) ?_
          | (refine awp_cond _ rfl (fun hc => ?_) (fun hc => ?_) <;> (try simp only [Bool.not_eq_true', Bool.not_eq_false'] at hc) <;> (try simp only [hc]))
          | (refine gdW_split (fun hc => ?_) (fun hc => ?_) <;> (try simp only [Bool.not_eq_true', Bool.not_eq_false'] at hc))
          | (refine gdQ_split (fun hc => ?_) (fun hc => ?_) <;> (try simp only [Bool.not_eq_true', Bool.not_eq_false'] at hc)))
        · simp only [*, Bool.false_and] at hinv
          rw [← hinv]
          exact end_quiet0 rfl rfl
        · simp only [*, Bool.true_and] at hinv
          rw [andThen_normal]
          refine ⟨(xs).length - (i + 1), by omega, _, ?_, i + 1, ⟨by omega, hinv⟩, rfl, rfl⟩
          first
            | (refine weak_junk ?_; (try simp only [go_sem]); simp [LeT]; done)
            | (simp only [go_sem, List.map_append, List.map_cons, List.map_nil, List.length_append, List.length_cons, List.length_nil, List.length_map, Nat.zero_add, List.append_assoc, List.cons_append, List.nil_append]; refine weak_junk ?_; simp [LeT]; done)
            | ((try simp only [go_sem, List.map_append, List.map_cons, List.map_nil, List.length_append, List.length_cons, List.length_nil, List.length_map, Nat.zero_add, List.append_assoc, List.cons_append, List.nil_append]); refine weak_cut _ (by first | rfl | (simp only [List.append_assoc, List.cons_append, List.nil_append]; rfl)) (by simp) (by simp [LeT]) (by simp) (by first | exact hB | (refine hB_app hB ?_; simp; done) | (refine hB_app hB ?_; simp [or_imp, forall_and]; done) | (refine hB_app hB ?_; simp; refine forall_set ?_ ?_ <;> simp; done)); done)
      · have hd : decide (i < (xs).length) = false := by simpa using hlt
        have hnil : (xs).drop i = [] := List.drop_eq_nil_of_le (by omega)
        try rw [hnil] at hinv
        repeat (first
          | ((with_reducible first | refine isWL ?_ | refine isGW ?_ | refine isWQ ?_ | refine isGQ ?_); simp only [go_sem, Nat.reduceAdd, Nat.reduceMul, Nat.reduceLeDiff, Nat.reduceLT, Nat.reduceEqDiff, Int.reduceToNat, Int.reduceLE, Int.reduceLT, List.forall_mem_cons, List.not_mem_nil, false_implies, implies_true, hd])
          | refine awp_seq_k (fun K hK => ?_)
          | refine awp_block ?_
          | refine awp_region_w (by first | (simp; done) | assumption | (simp; omega)) (fun Q hQ => ?_)
          | refine awp_region_q mixed (by kernel_rfl) (by kernel_rfl) rfl (by first | (simp; done) | assumption | (simp; omega)) (fun Q hQ => ?_)
          | refine Both.mk ?_ ?_
          | (refine hQ _ _ ?_; clear hQ Q)
          | (refine hQ _ ?_; clear hQ Q)
          | refine awp_cond_true rfl ?_
          | refine awp_cond_false rfl ?_
          | refine awp_skip ?_
          | (refine awp_exit ?_; simp only [go_sem, Nat.reduceEqDiff])
          | (refine awp_ret ?_; try simp only [inBlock_ret, andThen_ret])
          | ((first | refine hK _ ?_ | (clear hK K; refine hK _ ?_) | (clear hK K; clear hK K; refine hK _ ?_) | (clear hK K; clear hK K; clear hK K; refine hK _ ?_) | (clear hK K; clear hK K; clear hK K; clear hK K; refine hK _ ?_) | (clear hK K; clear hK K; clear hK K; clear hK K; clear hK K; refine hK _ ?_) | (clear hK K; clear hK K; clear hK K; clear hK K; clear hK K; clear hK K; refine hK _ ?_)); clear hK; clear K)
          | refine And.intro (by first | assumption | omega | trivial | rfl | (simp; done)) ?_)
        have hnil2 : ys.drop i = [] := List.drop_eq_nil_of_le (by omega)
        rw [hnil2] at hinv
        rw [← hinv]
        exact end_quiet0 rfl rfl

/-- The key that a foreign rule names: its columns' names, of which table. -/
def keyOf (o : ObjsR) (r : RuleR) : Option (TableR × RuleR) :=
  match o.tables[(idxOf (fun t => t.schema == r.schema && t.name == r.table) o.tables).toNat]? with
  | none => none
  | some t =>
    if 0 ≤ idxOf (fun t => t.schema == r.schema && t.name == r.table) o.tables then
      match t.rules[(idxOf (fun k => k.name == r.key) t.rules).toNat]? with
      | none => none
      | some k => if 0 ≤ idxOf (fun k => k.name == r.key) t.rules ∧ k.kind = 2 then some (t, k) else none
    else none

def keyE (o : ObjsR) (l : List ColR) (r : RuleR) : Int :=
  match keyOf o r with
  | none => 61
  | some (t, k) => if k.cols.length = r.cols.length ∧ (kindsL t.cols k.cols).length = k.cols.length ∧ eqL (fun a b => a == b) (kindsL l r.cols) (kindsL t.cols k.cols) = true then 0 else 63

theorem kindsL_le (l : List ColR) : ∀ ns : List (List UInt8), (kindsL l ns).length ≤ ns.length
  | [] => Nat.le_refl _
  | s :: ns => by
    have := kindsL_le l ns
    unfold kindsL
    split <;> simp <;> omega

/-- Rules and tables that are no larger than is looked at. -/
def RuleR.fit (r : RuleR) : Prop := r.ok ∧ r.cols.length ≤ 10000000
def TableR.fit (t : TableR) : Prop := tx t.schema ∧ tx t.name ∧ tx t.owner ∧ (∀ c, c ∈ t.cols → tx c.name) ∧ t.cols.length ≤ 10000000 ∧ (∀ r, r ∈ t.rules → r.fit) ∧ t.rules.length ≤ 10000000
def ObjsR.fit (o : ObjsR) : Prop := (∀ s, s ∈ o.schemas → tx s.name ∧ tx s.owner) ∧ o.schemas.length ≤ 10000000 ∧ (∀ t, t ∈ o.tables → t.fit) ∧ o.tables.length ≤ 10000000

theorem key_q (o : ObjsR) (l : List ColR) (r : RuleR) (ho : o.fit) (hl : l.length ≤ 10000000) (hr : r.fit) (H : List AObj) :
    QuietF Go.Proofs.Try.prog 99 [.agg o.cells, .fz (l.map ColR.av), RuleR.av r] H (.int .i64 (keyE o l r)) := by
  refine ACallF.of hb_99 (acalls_body Try.func99 rfl ?_)
  intro hB hA
  rw [args0_99]
  obtain ⟨o1, o2, o3, o4⟩ := ho
  have hr2 := hr.2
  have hidx := idxOf_lt (p := fun t : TableR => t.schema == r.schema && t.name == r.table) (l := o.tables)
  by_cases h0 : 0 ≤ idxOf (fun t => t.schema == r.schema && t.name == r.table) o.tables
  · obtain ⟨t, ht⟩ : ∃ t, o.tables[(idxOf (fun t => t.schema == r.schema && t.name == r.table) o.tables).toNat]? = some t := ⟨_, List.getElem?_eq_getElem (by omega)⟩
    obtain ⟨t1, t2, t3, t4, t5, t6, t7⟩ := o3 t (List.mem_of_getElem? ht)
    have hlt := look_map (g := TableR.av) ht
    have hkx := idxOf_lt (p := fun k : RuleR => k.name == r.key) (l := t.rules)
    have d0 : decide (0 ≤ idxOf (fun t => t.schema == r.schema && t.name == r.table) o.tables) = true := by simpa using h0
    by_cases h1 : 0 ≤ idxOf (fun k => k.name == r.key) t.rules
    · obtain ⟨k, hk⟩ : ∃ k, t.rules[(idxOf (fun k => k.name == r.key) t.rules).toNat]? = some k := ⟨_, List.getElem?_eq_getElem (by omega)⟩
      have hk6 := t6 k (List.mem_of_getElem? hk)
      have hlk := look_map (g := RuleR.av) hk
      have d1 : decide (idxOf (fun k => k.name == r.key) t.rules < 0) = false := by simpa using h1
      have n1 := kindsL_le l r.cols
      have n2 := kindsL_le t.cols k.cols
      have hval : keyE o l r = if k.kind = 2 then (if k.cols.length = r.cols.length ∧ (kindsL t.cols k.cols).length = k.cols.length ∧ eqL (fun a b => a == b) (kindsL l r.cols) (kindsL t.cols k.cols) = true then 0 else 63) else 61 := by
        simp only [keyE, keyOf, ht, hk, h0, h1, if_true, true_and]
        by_cases h2 : k.kind = 2 <;> simp [h2]
      rw [hval]
      repeat' (first
        | ((with_reducible first | refine isWL ?_ | refine isGW ?_ | refine isWQ ?_ | refine isGQ ?_); (first | simp only [go_sem, Nat.reduceAdd, Nat.reduceMul, Nat.reduceLeDiff, Nat.reduceLT, Nat.reduceEqDiff, Int.reduceToNat, Int.reduceLE, Int.reduceLT, List.forall_mem_cons, List.not_mem_nil, false_implies, implies_true, d0, d1, h0, h1, hidx, hkx, hlt, hlk, List.length_map, hc] | simp only [go_sem, Nat.reduceAdd, Nat.reduceMul, Nat.reduceLeDiff, Nat.reduceLT, Nat.reduceEqDiff, Int.reduceToNat, Int.reduceLE, Int.reduceLT, List.forall_mem_cons, List.not_mem_nil, false_implies, implies_true, d0, d1, h0, h1, hidx, hkx, hlt, hlk, List.length_map]))
        | refine awp_seq_k (fun K hK => ?_)
        | refine awp_block ?_
        | refine awp_region_w (by first | (simp; done) | assumption | (simp; omega)) (fun Q hQ => ?_)
        | refine awp_region_q mixed (by kernel_rfl) (by kernel_rfl) rfl (by first | (simp; done) | assumption | (simp; omega)) (fun Q hQ => ?_)
        | refine callW_quiet (where_q o r.schema r.table (by omega) _) ?_
        | refine callQ_quiet (where_q o r.schema r.table (by omega) _) ?_
        | refine callW_quiet (byName_rule t.rules r.key (by omega) _) ?_
        | refine callQ_quiet (byName_rule t.rules r.key (by omega) _) ?_
        | refine callW_quiet (kinds_q l r.cols (by omega) (by omega) _) ?_
        | refine callQ_quiet (kinds_q l r.cols (by omega) (by omega) _) ?_
        | refine callW_quiet (kinds_q t.cols k.cols (by omega) (by have := hk6.2; omega) _) ?_
        | refine callQ_quiet (kinds_q t.cols k.cols (by omega) (by have := hk6.2; omega) _) ?_
        | refine callW_quiet (equal_kind (kindsL l r.cols) (kindsL t.cols k.cols) (by omega) _) ?_
        | refine callQ_quiet (equal_kind (kindsL l r.cols) (kindsL t.cols k.cols) (by omega) _) ?_
        | refine Both.mk ?_ ?_
        | (refine hQ _ _ ?_; clear hQ Q)
        | (refine hQ _ ?_; clear hQ Q)
        | refine awp_cond_true rfl ?_
        | refine awp_cond_false rfl ?_
        | refine awp_skip ?_
        | (refine awp_exit ?_; simp only [go_sem, Nat.reduceEqDiff])
        | (refine awp_ret ?_; try simp only [inBlock_ret, andThen_ret])
        | ((first | refine hK _ ?_ | (clear hK K; refine hK _ ?_) | (clear hK K; clear hK K; refine hK _ ?_) | (clear hK K; clear hK K; clear hK K; refine hK _ ?_) | (clear hK K; clear hK K; clear hK K; clear hK K; refine hK _ ?_) | (clear hK K; clear hK K; clear hK K; clear hK K; clear hK K; refine hK _ ?_) | (clear hK K; clear hK K; clear hK K; clear hK K; clear hK K; clear hK K; refine hK _ ?_)); clear hK; clear K)
        | refine And.intro (by first | assumption | omega | trivial | rfl | (simp; done)) ?_
        | (refine awp_cond _ rfl (fun hc => ?_) (fun hc => ?_) <;> (try simp only [Bool.not_eq_true', Bool.not_eq_false'] at hc) <;> (try simp only [hc]))
        | (refine gdW_split (fun hc => ?_) (fun hc => ?_) <;> (try simp only [Bool.not_eq_true', Bool.not_eq_false'] at hc))
        | (refine gdQ_split (fun hc => ?_) (fun hc => ?_) <;> (try simp only [Bool.not_eq_true', Bool.not_eq_false'] at hc)))
      all_goals
        refine end_quiet hB rfl ?_ (by simp)
        clear hB hA
        simp only [beq_iff_eq, beq_eq_false_iff_ne, ne_eq, Int.ofNat_inj, Int.natCast_inj] at *
        first
          | (simp only [go_sem, *, if_true, if_false, true_and, false_and, and_true, and_false, and_self, not_true, not_false_iff, Bool.false_eq_true]; done)
          | (simp only [look_zero, look_succ]; congr 1; simp_all; done)
          | (simp only [look_zero, look_succ]; congr 1; simp_all; omega)
    · have d1 : decide (idxOf (fun k => k.name == r.key) t.rules < 0) = true := by simpa using h1
      have hval : keyE o l r = 61 := by
        simp only [keyE, keyOf, ht, h0, if_true]
        cases hq : t.rules[(idxOf (fun k => k.name == r.key) t.rules).toNat]? <;> simp [h1]
      rw [hval]
      repeat' (first
        | ((with_reducible first | refine isWL ?_ | refine isGW ?_ | refine isWQ ?_ | refine isGQ ?_); (first | simp only [go_sem, Nat.reduceAdd, Nat.reduceMul, Nat.reduceLeDiff, Nat.reduceLT, Nat.reduceEqDiff, Int.reduceToNat, Int.reduceLE, Int.reduceLT, List.forall_mem_cons, List.not_mem_nil, false_implies, implies_true, d0, d1, h0, hidx, hlt, List.length_map, hc] | simp only [go_sem, Nat.reduceAdd, Nat.reduceMul, Nat.reduceLeDiff, Nat.reduceLT, Nat.reduceEqDiff, Int.reduceToNat, Int.reduceLE, Int.reduceLT, List.forall_mem_cons, List.not_mem_nil, false_implies, implies_true, d0, d1, h0, hidx, hlt, List.length_map]))
        | refine awp_seq_k (fun K hK => ?_)
        | refine awp_block ?_
        | refine awp_region_w (by first | (simp; done) | assumption | (simp; omega)) (fun Q hQ => ?_)
        | refine awp_region_q mixed (by kernel_rfl) (by kernel_rfl) rfl (by first | (simp; done) | assumption | (simp; omega)) (fun Q hQ => ?_)
        | refine callW_quiet (where_q o r.schema r.table (by omega) _) ?_
        | refine callQ_quiet (where_q o r.schema r.table (by omega) _) ?_
        | refine callW_quiet (byName_rule t.rules r.key (by omega) _) ?_
        | refine callQ_quiet (byName_rule t.rules r.key (by omega) _) ?_
        | refine Both.mk ?_ ?_
        | (refine hQ _ _ ?_; clear hQ Q)
        | (refine hQ _ ?_; clear hQ Q)
        | refine awp_cond_true rfl ?_
        | refine awp_cond_false rfl ?_
        | refine awp_skip ?_
        | (refine awp_exit ?_; simp only [go_sem, Nat.reduceEqDiff])
        | (refine awp_ret ?_; try simp only [inBlock_ret, andThen_ret])
        | ((first | refine hK _ ?_ | (clear hK K; refine hK _ ?_) | (clear hK K; clear hK K; refine hK _ ?_) | (clear hK K; clear hK K; clear hK K; refine hK _ ?_) | (clear hK K; clear hK K; clear hK K; clear hK K; refine hK _ ?_) | (clear hK K; clear hK K; clear hK K; clear hK K; clear hK K; refine hK _ ?_) | (clear hK K; clear hK K; clear hK K; clear hK K; clear hK K; clear hK K; refine hK _ ?_)); clear hK; clear K)
        | refine And.intro (by first | assumption | omega | trivial | rfl | (simp; done)) ?_
        | (refine awp_cond _ rfl (fun hc => ?_) (fun hc => ?_) <;> (try simp only [Bool.not_eq_true', Bool.not_eq_false'] at hc) <;> (try simp only [hc]))
        | (refine gdW_split (fun hc => ?_) (fun hc => ?_) <;> (try simp only [Bool.not_eq_true', Bool.not_eq_false'] at hc))
        | (refine gdQ_split (fun hc => ?_) (fun hc => ?_) <;> (try simp only [Bool.not_eq_true', Bool.not_eq_false'] at hc)))
      all_goals exact end_quiet hB rfl rfl (by simp)
  · have d0 : decide (0 ≤ idxOf (fun t => t.schema == r.schema && t.name == r.table) o.tables) = false := by simpa using h0
    have hval : keyE o l r = 61 := by
      simp only [keyE, keyOf]
      cases hq : o.tables[(idxOf (fun t => t.schema == r.schema && t.name == r.table) o.tables).toNat]? <;> simp [h0]
    rw [hval]
    repeat' (first
      | ((with_reducible first | refine isWL ?_ | refine isGW ?_ | refine isWQ ?_ | refine isGQ ?_); (first | simp only [go_sem, Nat.reduceAdd, Nat.reduceMul, Nat.reduceLeDiff, Nat.reduceLT, Nat.reduceEqDiff, Int.reduceToNat, Int.reduceLE, Int.reduceLT, List.forall_mem_cons, List.not_mem_nil, false_implies, implies_true, d0, hc] | simp only [go_sem, Nat.reduceAdd, Nat.reduceMul, Nat.reduceLeDiff, Nat.reduceLT, Nat.reduceEqDiff, Int.reduceToNat, Int.reduceLE, Int.reduceLT, List.forall_mem_cons, List.not_mem_nil, false_implies, implies_true, d0]))
      | refine awp_seq_k (fun K hK => ?_)
      | refine awp_block ?_
      | refine awp_region_w (by first | (simp; done) | assumption | (simp; omega)) (fun Q hQ => ?_)
      | refine awp_region_q mixed (by kernel_rfl) (by kernel_rfl) rfl (by first | (simp; done) | assumption | (simp; omega)) (fun Q hQ => ?_)
      | refine callW_quiet (where_q o r.schema r.table (by omega) _) ?_
      | refine callQ_quiet (where_q o r.schema r.table (by omega) _) ?_
      | refine Both.mk ?_ ?_
      | (refine hQ _ _ ?_; clear hQ Q)
      | (refine hQ _ ?_; clear hQ Q)
      | refine awp_cond_true rfl ?_
      | refine awp_cond_false rfl ?_
      | refine awp_skip ?_
      | (refine awp_exit ?_; simp only [go_sem, Nat.reduceEqDiff])
      | (refine awp_ret ?_; try simp only [inBlock_ret, andThen_ret])
      | ((first | refine hK _ ?_ | (clear hK K; refine hK _ ?_) | (clear hK K; clear hK K; refine hK _ ?_) | (clear hK K; clear hK K; clear hK K; refine hK _ ?_) | (clear hK K; clear hK K; clear hK K; clear hK K; refine hK _ ?_) | (clear hK K; clear hK K; clear hK K; clear hK K; clear hK K; refine hK _ ?_) | (clear hK K; clear hK K; clear hK K; clear hK K; clear hK K; clear hK K; refine hK _ ?_)); clear hK; clear K)
      | refine And.intro (by first | assumption | omega | trivial | rfl | (simp; done)) ?_
      | (refine awp_cond _ rfl (fun hc => ?_) (fun hc => ?_) <;> (try simp only [Bool.not_eq_true', Bool.not_eq_false'] at hc) <;> (try simp only [hc]))
      | (refine gdW_split (fun hc => ?_) (fun hc => ?_) <;> (try simp only [Bool.not_eq_true', Bool.not_eq_false'] at hc))
      | (refine gdQ_split (fun hc => ?_) (fun hc => ?_) <;> (try simp only [Bool.not_eq_true', Bool.not_eq_false'] at hc)))
    all_goals exact end_quiet hB rfl rfl (by simp)

end Go.Proofs.Ytamoclnnakdiaaa.Abs
