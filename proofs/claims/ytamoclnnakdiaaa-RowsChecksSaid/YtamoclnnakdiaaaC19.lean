/-
  rows.Key, rows.Turn.
  Conditions: none.
-/
import Derived.Test.YtamoclnnakdiaaaC18
namespace Go.Proofs.Ytamoclnnakdiaaa.Abs
open Go Go.RowKit
set_option linter.unusedVariables false
set_option maxRecDepth 100000
set_option maxHeartbeats 4000000
set_option linter.unusedSimpArgs false

/-- The first place, reckoned from i on. -/
def idxF {α : Type} (p : α → Bool) : Nat → List α → Int
  | _, [] => -1
  | i, a :: l => if p a = true then (i : Int) else idxF p (i + 1) l

theorem idxF_of {α : Type} (p : α → Bool) : ∀ (l : List α) (i : Nat), idxF p i l = if l.findIdx p < l.length then ((i + l.findIdx p : Nat) : Int) else -1
  | [], i => by simp [idxF]
  | a :: l, i => by
    simp only [idxF, List.findIdx_cons]
    cases hp : p a with
    | true => simp
    | false =>
      rw [if_neg (by simp), idxF_of p l (i + 1)]
      by_cases hl : l.findIdx p < l.length
      · simp [hl]; omega
      · simp [hl]

theorem idxF_zero {α : Type} (p : α → Bool) (l : List α) : idxF p 0 l = idxOf p l := by
  rw [idxF_of]
  simp [idxOf]

theorem index_val (xs : List ValR) (v : ValR) (hn : xs.length ≤ 140737488351232) (H : List AObj) :
    QuietF Go.Proofs.Try.prog 84 [.fz (xs.map ValR.av), ValR.av v] H (.int .i64 (idxOf (fun w => ValR.eq v w) xs)) := by
  refine ACallF.of hb_84 (acalls_body Try.func84 rfl ?_)
  intro hB hA
  rw [args0_84]
  rw [← idxF_zero]
  repeat (first
    | ((with_reducible first | refine isWL ?_ | refine isGW ?_ | refine isWQ ?_ | refine isGQ ?_); simp only [go_sem, Nat.reduceAdd, Nat.reduceMul, Nat.reduceLeDiff, Nat.reduceLT, Nat.reduceEqDiff, Int.reduceToNat, Int.reduceLE, Int.reduceLT, List.forall_mem_cons, List.not_mem_nil, false_implies, implies_true])
    | refine awp_seq_k (fun K hK => ?_)
    | refine awp_block ?_
    | refine awp_region_w (by first | (simp; done) | assumption | (simp; omega)) (fun Q hQ => ?_)
    | refine awp_region_q mixed (by kernel_rfl) (by kernel_rfl) rfl (by first | (simp; done) | assumption | (simp; omega)) (fun Q hQ => ?_)
    | refine Both.mk ?_ ?_
    | (refine hQ _ _ ?_; clear hQ Q)
    | (refine hQ _ ?_; clear hQ Q)
    | refine awp_cond_true rfl ?_
    | refine awp_cond_false rfl ?_
    | refine awp_skip ?_
    | (refine awp_exit ?_; simp only [go_sem, Nat.reduceEqDiff])
    | (refine awp_ret ?_; try simp only [inBlock_ret, andThen_ret])
    | ((first | refine hK _ ?_ | (clear hK K; refine hK _ ?_) | (clear hK K; clear hK K; refine hK _ ?_) | (clear hK K; clear hK K; clear hK K; refine hK _ ?_) | (clear hK K; clear hK K; clear hK K; clear hK K; refine hK _ ?_) | (clear hK K; clear hK K; clear hK K; clear hK K; clear hK K; refine hK _ ?_) | (clear hK K; clear hK K; clear hK K; clear hK K; clear hK K; clear hK K; refine hK _ ?_)); clear hK; clear K)
    | refine And.intro (by first | assumption | omega | trivial | rfl | (simp; done)) ?_)
  refine awp_loop_at (fun T n S => ∃ (i : Nat) , (i ≤ (xs).length ∧ idxF (fun w => ValR.eq v w) i (xs.drop i) = idxF (fun w => ValR.eq v w) 0 xs) ∧ n = (xs).length - i ∧ S = ⟨setT T [(8, .int .i64 (i : Int)), (4, .junk), (5, .junk), (9, .junk), (10, .junk), (11, .junk), (12, .junk), (13, .junk), (14, .junk), (15, .junk), (16, .junk), (17, .junk), (18, .junk)], H ++ [.var [.int .i64 v.kind, .int .i64 v.num, .str v.text]]⟩) ?_ ?_
  · refine ⟨_, _, weak_junk ?_, 0, ⟨Nat.zero_le _, by first | rfl | assumption | (simp; done) | trivial⟩, rfl, rfl⟩
    simp only [go_sem]; simp [LeT]
  · rintro n S ⟨i, ⟨hi, hinv⟩, rfl, rfl⟩
    by_cases hlt : i < (xs).length
    · have hw := wrap_succ hlt (by omega)
      have hd : decide (i < (xs).length) = true := by simpa using hlt
      obtain ⟨a, ha⟩ : ∃ a, (xs)[i]? = some a := ⟨_, List.getElem?_eq_getElem hlt⟩
      have hl := look_map (g := ValR.av) ha
      have hmem := List.mem_of_getElem? ha
      try rw [drop_cons ha] at hinv
      have hveq : (v.kind == a.kind && (v.num == a.num && v.text == a.text)) = ValR.eq v a := rfl
      simp only [idxF] at hinv
      repeat' (first
        | ((with_reducible first | refine isWL ?_ | refine isGW ?_ | refine isWQ ?_ | refine isGQ ?_); (first | simp only [go_sem, Nat.reduceAdd, Nat.reduceMul, Nat.reduceLeDiff, Nat.reduceLT, Nat.reduceEqDiff, Int.reduceToNat, Int.reduceLE, Int.reduceLT, List.forall_mem_cons, List.not_mem_nil, false_implies, implies_true, hd, hw, hl, hlt, List.length_map, hveq, hc] | simp only [go_sem, Nat.reduceAdd, Nat.reduceMul, Nat.reduceLeDiff, Nat.reduceLT, Nat.reduceEqDiff, Int.reduceToNat, Int.reduceLE, Int.reduceLT, List.forall_mem_cons, List.not_mem_nil, false_implies, implies_true, hd, hw, hl, hlt, List.length_map, hveq]))
        | refine awp_seq_k (fun K hK => ?_)
        | refine awp_block ?_
        | refine awp_region_w (by first | (simp; done) | assumption | (simp; omega)) (fun Q hQ => ?_)
        | refine awp_region_q mixed (by kernel_rfl) (by kernel_rfl) rfl (by first | (simp; done) | assumption | (simp; omega)) (fun Q hQ => ?_)
        | refine Both.mk ?_ ?_
        | (refine hQ _ _ ?_; clear hQ Q)
        | (refine hQ _ ?_; clear hQ Q)
        | refine awp_cond_true rfl ?_
        | refine awp_cond_false rfl ?_
        | refine awp_skip ?_
        | (refine awp_exit ?_; simp only [go_sem, Nat.reduceEqDiff])
        | (refine awp_ret ?_; try simp only [inBlock_ret, andThen_ret])
        | ((first | refine hK _ ?_ | (clear hK K; refine hK _ ?_) | (clear hK K; clear hK K; refine hK _ ?_) | (clear hK K; clear hK K; clear hK K; refine hK _ ?_) | (clear hK K; clear hK K; clear hK K; clear hK K; refine hK _ ?_) | (clear hK K; clear hK K; clear hK K; clear hK K; clear hK K; refine hK _ ?_) | (clear hK K; clear hK K; clear hK K; clear hK K; clear hK K; clear hK K; refine hK _ ?_)); clear hK; clear K)
        | refine And.intro (by first | assumption | omega | trivial | rfl | (simp; done)) ?_
        | (refine awp_cond _ rfl (fun hc => ?_) (fun hc => ?_) <;> (try simp only [Bool.not_eq_true', Bool.not_eq_false'] at hc) <;> (try simp only [hc]))
        | (refine gdW_split (fun hc => ?_) (fun hc => ?_) <;> (try simp only [Bool.not_eq_true', Bool.not_eq_false'] at hc))
        | (refine gdQ_split (fun hc => ?_) (fun hc => ?_) <;> (try simp only [Bool.not_eq_true', Bool.not_eq_false'] at hc)))
      · simp only [*, if_true] at hinv
        rw [← hinv]
        first | exact end_quiet0 rfl rfl | exact end_quiet hB rfl rfl (by simp)
      · simp only [*, Bool.false_eq_true, if_false] at hinv
        rw [andThen_normal]
        refine ⟨(xs).length - (i + 1), by omega, _, ?_, i + 1, ⟨by omega, hinv⟩, rfl, rfl⟩
        first
          | (refine weak_junk ?_; (try simp only [go_sem]); simp [LeT]; done)
          | (simp only [go_sem, List.map_append, List.map_cons, List.map_nil, List.length_append, List.length_cons, List.length_nil, List.length_map, Nat.zero_add, List.append_assoc, List.cons_append, List.nil_append]; refine weak_junk ?_; simp [LeT]; done)
          | ((try simp only [go_sem, List.map_append, List.map_cons, List.map_nil, List.length_append, List.length_cons, List.length_nil, List.length_map, Nat.zero_add, List.append_assoc, List.cons_append, List.nil_append]); refine weak_cut _ (by first | rfl | (simp only [List.append_assoc, List.cons_append, List.nil_append]; rfl)) (by simp) (by simp [LeT]) (by simp) (by first | exact hB | (refine hB_app hB ?_; simp; done) | (refine hB_app hB ?_; simp [or_imp, forall_and]; done) | (refine hB_app hB ?_; simp; refine forall_set ?_ ?_ <;> simp; done)); done)
    · have hd : decide (i < (xs).length) = false := by simpa using hlt
      have hnil : (xs).drop i = [] := List.drop_eq_nil_of_le (by omega)
      try rw [hnil] at hinv
      repeat (first
        | ((with_reducible first | refine isWL ?_ | refine isGW ?_ | refine isWQ ?_ | refine isGQ ?_); simp only [go_sem, Nat.reduceAdd, Nat.reduceMul, Nat.reduceLeDiff, Nat.reduceLT, Nat.reduceEqDiff, Int.reduceToNat, Int.reduceLE, Int.reduceLT, List.forall_mem_cons, List.not_mem_nil, false_implies, implies_true, hd])
        | refine awp_seq_k (fun K hK => ?_)
        | refine awp_block ?_
        | refine awp_region_w (by first | (simp; done) | assumption | (simp; omega)) (fun Q hQ => ?_)
        | refine awp_region_q mixed (by kernel_rfl) (by kernel_rfl) rfl (by first | (simp; done) | assumption | (simp; omega)) (fun Q hQ => ?_)
        | refine Both.mk ?_ ?_
        | (refine hQ _ _ ?_; clear hQ Q)
        | (refine hQ _ ?_; clear hQ Q)
        | refine awp_cond_true rfl ?_
        | refine awp_cond_false rfl ?_
        | refine awp_skip ?_
        | (refine awp_exit ?_; simp only [go_sem, Nat.reduceEqDiff])
        | (refine awp_ret ?_; try simp only [inBlock_ret, andThen_ret])
        | ((first | refine hK _ ?_ | (clear hK K; refine hK _ ?_) | (clear hK K; clear hK K; refine hK _ ?_) | (clear hK K; clear hK K; clear hK K; refine hK _ ?_) | (clear hK K; clear hK K; clear hK K; clear hK K; refine hK _ ?_) | (clear hK K; clear hK K; clear hK K; clear hK K; clear hK K; refine hK _ ?_) | (clear hK K; clear hK K; clear hK K; clear hK K; clear hK K; clear hK K; refine hK _ ?_)); clear hK; clear K)
        | refine And.intro (by first | assumption | omega | trivial | rfl | (simp; done)) ?_)
      rw [← hinv]
      first | exact end_quiet0 rfl rfl | exact end_quiet hB rfl rfl (by simp)

theorem contains_val (xs : List ValR) (v : ValR) (hn : xs.length ≤ 140737488351232) (H : List AObj) :
    QuietF Go.Proofs.Try.prog 53 [.fz (xs.map ValR.av), ValR.av v] H (.bool (decide (0 ≤ idxOf (fun w => ValR.eq v w) xs))) := by
  refine ACallF.of hb_53 (acalls_body Try.func53 rfl ?_)
  intro hB hA
  rw [args0_53]
  repeat (first
    | ((with_reducible first | refine isWL ?_ | refine isGW ?_ | refine isWQ ?_ | refine isGQ ?_); simp only [go_sem, Nat.reduceAdd, Nat.reduceMul, Nat.reduceLeDiff, Nat.reduceLT, Nat.reduceEqDiff, Int.reduceToNat, Int.reduceLE, Int.reduceLT, List.forall_mem_cons, List.not_mem_nil, false_implies, implies_true])
    | refine awp_seq_k (fun K hK => ?_)
    | refine awp_block ?_
    | refine awp_region_w (by first | (simp; done) | assumption | (simp; omega)) (fun Q hQ => ?_)
    | refine awp_region_q mixed (by kernel_rfl) (by kernel_rfl) rfl (by first | (simp; done) | assumption | (simp; omega)) (fun Q hQ => ?_)
    | refine callW_quiet (index_val xs v hn _) ?_
    | refine callQ_quiet (index_val xs v hn _) ?_
    | refine Both.mk ?_ ?_
    | (refine hQ _ _ ?_; clear hQ Q)
    | (refine hQ _ ?_; clear hQ Q)
    | refine awp_cond_true rfl ?_
    | refine awp_cond_false rfl ?_
    | refine awp_skip ?_
    | (refine awp_exit ?_; simp only [go_sem, Nat.reduceEqDiff])
    | (refine awp_ret ?_; try simp only [inBlock_ret, andThen_ret])
    | ((first | refine hK _ ?_ | (clear hK K; refine hK _ ?_) | (clear hK K; clear hK K; refine hK _ ?_) | (clear hK K; clear hK K; clear hK K; refine hK _ ?_) | (clear hK K; clear hK K; clear hK K; clear hK K; refine hK _ ?_) | (clear hK K; clear hK K; clear hK K; clear hK K; clear hK K; refine hK _ ?_) | (clear hK K; clear hK K; clear hK K; clear hK K; clear hK K; clear hK K; refine hK _ ?_)); clear hK; clear K)
    | refine And.intro (by first | assumption | omega | trivial | rfl | (simp; done)) ?_)
  first | exact end_quiet0 rfl rfl | exact end_quiet hB rfl rfl (by simp)

theorem keyF_q (name : List UInt8) (r : RuleR) (H : List AObj) (i : Nat) (h2 : hget H i = some (.var [.str name])) :
    QuietF Go.Proofs.Try.prog 52 [RuleR.av r, .ptr i 0] H (.bool (r.name == name)) := by
  refine ACallF.of hb_52 (acalls_body Try.func52 rfl ?_)
  intro hB hA
  rw [args0_52]
  have k2 := fun L => hget_more (L := L) h2
  repeat' (first
    | ((with_reducible first | refine isWL ?_ | refine isGW ?_ | refine isWQ ?_ | refine isGQ ?_); (first | simp only [go_sem, Nat.reduceAdd, Nat.reduceMul, Nat.reduceLeDiff, Nat.reduceLT, Nat.reduceEqDiff, Int.reduceToNat, Int.reduceLE, Int.reduceLT, List.forall_mem_cons, List.not_mem_nil, false_implies, implies_true, k2, hc] | simp only [go_sem, Nat.reduceAdd, Nat.reduceMul, Nat.reduceLeDiff, Nat.reduceLT, Nat.reduceEqDiff, Int.reduceToNat, Int.reduceLE, Int.reduceLT, List.forall_mem_cons, List.not_mem_nil, false_implies, implies_true, k2]))
    | refine awp_seq_k (fun K hK => ?_)
    | refine awp_block ?_
    | refine awp_region_w (by first | (simp; done) | assumption | (simp; omega)) (fun Q hQ => ?_)
    | refine awp_region_q mixed (by kernel_rfl) (by kernel_rfl) rfl (by first | (simp; done) | assumption | (simp; omega)) (fun Q hQ => ?_)
    | refine Both.mk ?_ ?_
    | (refine hQ _ _ ?_; clear hQ Q)
    | (refine hQ _ ?_; clear hQ Q)
    | refine awp_cond_true rfl ?_
    | refine awp_cond_false rfl ?_
    | refine awp_skip ?_
    | (refine awp_exit ?_; simp only [go_sem, Nat.reduceEqDiff])
    | (refine awp_ret ?_; try simp only [inBlock_ret, andThen_ret])
    | ((first | refine hK _ ?_ | (clear hK K; refine hK _ ?_) | (clear hK K; clear hK K; refine hK _ ?_) | (clear hK K; clear hK K; clear hK K; refine hK _ ?_) | (clear hK K; clear hK K; clear hK K; clear hK K; refine hK _ ?_) | (clear hK K; clear hK K; clear hK K; clear hK K; clear hK K; refine hK _ ?_) | (clear hK K; clear hK K; clear hK K; clear hK K; clear hK K; clear hK K; refine hK _ ?_)); clear hK; clear K)
    | refine And.intro (by first | assumption | omega | trivial | rfl | (simp; done)) ?_
    | (refine awp_cond _ rfl (fun hc => ?_) (fun hc => ?_) <;> (try simp only [Bool.not_eq_true', Bool.not_eq_false'] at hc) <;> (try simp only [hc]))
    | (refine gdW_split (fun hc => ?_) (fun hc => ?_) <;> (try simp only [Bool.not_eq_true', Bool.not_eq_false'] at hc))
    | (refine gdQ_split (fun hc => ?_) (fun hc => ?_) <;> (try simp only [Bool.not_eq_true', Bool.not_eq_false'] at hc)))
  first | exact end_quiet0 rfl rfl | exact end_quiet hB rfl rfl (by simp)

/-- What a row's key is: its values, whether none is null, and why there is none. -/
def keyV (t : TableR) (rule : List UInt8) (row : List ValR) : List ValR × Bool × Int :=
  if aloneB t = true then
    (match t.rules[(idxOf (fun r => r.name == rule) t.rules).toNat]? with
     | none => ([], false, 61)
     | some r =>
       if 0 ≤ idxOf (fun r => r.name == rule) t.rules then
         (if allP formP t.cols row = true then (r.cols.map (valOf t.cols row), !decide (0 ≤ idxOf (fun w => ValR.eq ⟨1, 0, []⟩ w) (r.cols.map (valOf t.cols row))), 0) else ([], false, 100))
       else ([], false, 61))
  else ([], false, 1)

/-- A new row of values. -/
def valObj (l : List ValR) : AObj := .arr l.length 24 3 (l.map ValR.av)
@[go_sem] theorem valObj_def (l : List ValR) : valObj l = .arr l.length 24 3 (l.map ValR.av) := _root_.id rfl
def keyT (H : List AObj) (r : List ValR × Bool × Int) : AV := .tuple [.sl H.length r.1.length 0 r.1.length, .bool r.2.1, .int .i64 r.2.2]

/-- An end without a row. -/
theorem end_none {P : Program} {fn : Func} {T : List AV} {H : List AObj} {L : List AObj} {ws : List AV} (hB : HB H) (hr : resT P fn T (H ++ L) = some (.tuple (.nils :: ws))) (hw : ∀ x, x ∈ ws → Below' H.length x) :
    bodyEnd P fn H.length (fun x H' => x = .ret (.tuple (.sl H.length 0 0 0 :: ws)) ∧ H' = H ++ [.arr 0 24 3 []]) .ret ⟨T, H ++ L⟩ := by
  refine ⟨_, hr, ⟨[.tuple (.sl H.length 0 0 0 :: ws)], H ++ [.arr 0 24 3 []]⟩, ?_, _, rfl, rfl, rfl⟩
  have h1 : Weak H.length ⟨[.tuple (.nils :: ws)], H ++ L⟩ ⟨[.tuple (.nils :: ws)], H⟩ := weak_trunc (Nat.le_refl _) (LeT.refl _) (fun x hx => by
    simp only [List.mem_singleton] at hx
    subst hx
    simp only [below_tuple, List.mem_cons]
    rintro x (rfl | hx)
    · simp
    · exact hw x hx) hB
  refine h1.trans ?_
  intro ρ w a hr
  obtain ⟨he, hh⟩ := ext_emp hr.heap 0 24 3
  refine ⟨ρ, ⟨⟨hr.tmps.1, ?_⟩, hh, hr.nodef⟩, he⟩
  intro k y hk
  match k, hk with
  | 0, hk =>
    simp only [List.getElem?_cons_zero, Option.some.injEq] at hk
    subst hk
    have h0 := (hr.tmps.2 0 _ rfl).mono he
    generalize a.tmps.getD 0 undef = v at h0 ⊢
    cases h0 with
    | tuple _ vs g1 g2 =>
      refine .tuple _ vs (by simpa using g1) ?_
      intro k x hk
      match k, hk with
      | 0, hk =>
        simp only [List.getElem?_cons_zero, Option.some.injEq] at hk
        subst hk
        have := g2 0 .nils rfl
        generalize vs.getD 0 undef = u at this ⊢
        cases this
        exact .sl_emp _ _ 24 3 _ (by rw [List.getElem?_append_right (Nat.le_refl _)]; simp)
      | k + 1, hk => exact g2 (k + 1) x (by simpa using hk)
  | k + 1, hk => simp at hk

theorem end_none0 {P : Program} {fn : Func} {T : List AV} {H : List AObj} {ws : List AV} (hB : HB H) (hr : resT P fn T H = some (.tuple (.nils :: ws))) (hw : ∀ x, x ∈ ws → Below' H.length x) :
    bodyEnd P fn H.length (fun x H' => x = .ret (.tuple (.sl H.length 0 0 0 :: ws)) ∧ H' = H ++ [.arr 0 24 3 []]) .ret ⟨T, H⟩ := by
  have := end_none (P := P) (fn := fn) (T := T) (L := []) hB (by rw [List.append_nil]; exact hr) hw
  rwa [List.append_nil] at this

theorem map_valOf_len {t : TableR} {row : List ValR} (l : List (List UInt8)) : (l.map (valOf t.cols row)).length = l.length := by simp

theorem rowsKey_n (t : TableR) (rule : List UInt8) (row : List ValR) (ht : t.fit) (H : List AObj) : NewF Go.Proofs.Try.prog 25 [TableR.av t, .str rule, .fz (row.map ValR.av)] H (keyT H (keyV t rule row)) [valObj (keyV t rule row).1] := by
  refine ACallF.of hb_25 (acalls_body Try.func25 rfl ?_)
  intro hB hA
  rw [args0_25]
  have ht' := ht
  obtain ⟨t1, t2, t3, t4, t5, t6, t7⟩ := ht'
  have hck := fun H => rowsCheck_q t ht H
  have hix := idxOf_lt (p := fun r : RuleR => r.name == rule) (l := t.rules)
  cases ha0 : aloneB t with
  | false =>
    have hr : aloneE t = 1 := by simp [aloneE, ha0]
    have hv : keyV t rule row = ([], false, 1) := by simp [keyV, ha0]
    rw [hv]
    repeat' (first
      | ((with_reducible first | refine isWL ?_ | refine isGW ?_ | refine isWQ ?_ | refine isGQ ?_); (first | simp only [go_sem, Nat.reduceAdd, Nat.reduceMul, Nat.reduceLeDiff, Nat.reduceLT, Nat.reduceEqDiff, Int.reduceToNat, Int.reduceLE, Int.reduceLT, List.forall_mem_cons, List.not_mem_nil, false_implies, implies_true, hr, Int.reduceBEq, Bool.not_false, hc] | simp only [go_sem, Nat.reduceAdd, Nat.reduceMul, Nat.reduceLeDiff, Nat.reduceLT, Nat.reduceEqDiff, Int.reduceToNat, Int.reduceLE, Int.reduceLT, List.forall_mem_cons, List.not_mem_nil, false_implies, implies_true, hr, Int.reduceBEq, Bool.not_false]))
      | refine awp_seq_k (fun K hK => ?_)
      | refine awp_block ?_
      | refine awp_region_w (by first | (simp; done) | assumption | (simp; omega)) (fun Q hQ => ?_)
      | refine awp_region_q mixed (by kernel_rfl) (by kernel_rfl) rfl (by first | (simp; done) | assumption | (simp; omega)) (fun Q hQ => ?_)
      | refine callW_quiet (hck _) ?_
      | refine callQ_quiet (hck _) ?_
      | refine callW_quiet (indexFunc_rule t.rules (fun r => r.name == rule) _ _ _ (by omega) (fun a ha => keyF_q rule a _ _ (by simp only [go_sem]))) ?_
      | refine callQ_quiet (indexFunc_rule t.rules (fun r => r.name == rule) _ _ _ (by omega) (fun a ha => keyF_q rule a _ _ (by simp only [go_sem]))) ?_
      | refine Both.mk ?_ ?_
      | (refine hQ _ _ ?_; clear hQ Q)
      | (refine hQ _ ?_; clear hQ Q)
      | refine awp_cond_true rfl ?_
      | refine awp_cond_false rfl ?_
      | refine awp_skip ?_
      | (refine awp_exit ?_; simp only [go_sem, Nat.reduceEqDiff])
      | (refine awp_ret ?_; try simp only [inBlock_ret, andThen_ret])
      | ((first | refine hK _ ?_ | (clear hK K; refine hK _ ?_) | (clear hK K; clear hK K; refine hK _ ?_) | (clear hK K; clear hK K; clear hK K; refine hK _ ?_) | (clear hK K; clear hK K; clear hK K; clear hK K; refine hK _ ?_) | (clear hK K; clear hK K; clear hK K; clear hK K; clear hK K; refine hK _ ?_) | (clear hK K; clear hK K; clear hK K; clear hK K; clear hK K; clear hK K; refine hK _ ?_)); clear hK; clear K)
      | refine And.intro (by first | assumption | omega | trivial | rfl | (simp; done)) ?_
      | (refine awp_cond _ rfl (fun hc => ?_) (fun hc => ?_) <;> (try simp only [Bool.not_eq_true', Bool.not_eq_false'] at hc) <;> (try simp only [hc]))
      | (refine gdW_split (fun hc => ?_) (fun hc => ?_) <;> (try simp only [Bool.not_eq_true', Bool.not_eq_false'] at hc))
      | (refine gdQ_split (fun hc => ?_) (fun hc => ?_) <;> (try simp only [Bool.not_eq_true', Bool.not_eq_false'] at hc)))
    exact end_none hB (by first | (simp only [go_sem]; done) | (simp only [go_sem]; rfl) | rfl) (by simp)
  | true =>
    have hr : aloneE t = 0 := by simp [aloneE, ha0]
    by_cases h0 : 0 ≤ idxOf (fun r => r.name == rule) t.rules
    · have hd0 : decide (idxOf (fun r => r.name == rule) t.rules < 0) = false := by simpa using h0
      obtain ⟨r, hr0⟩ : ∃ r, t.rules[(idxOf (fun r => r.name == rule) t.rules).toNat]? = some r := ⟨_, List.getElem?_eq_getElem (by omega)⟩
      have hlr := look_map (g := RuleR.av) hr0
      have hrm := List.mem_of_getElem? hr0
      have hr6 := t6 r hrm
      have hrc := hr6.2
      cases hf0 : allP formP t.cols row with
      | false =>
        have hv : keyV t rule row = ([], false, 100) := by simp [keyV, ha0, hr0, h0, hf0]
        rw [hv]
        repeat' (first
          | ((with_reducible first | refine isWL ?_ | refine isGW ?_ | refine isWQ ?_ | refine isGQ ?_); (first | simp only [go_sem, Nat.reduceAdd, Nat.reduceMul, Nat.reduceLeDiff, Nat.reduceLT, Nat.reduceEqDiff, Int.reduceToNat, Int.reduceLE, Int.reduceLT, List.forall_mem_cons, List.not_mem_nil, false_implies, implies_true, hr, hf0, hd0, Int.reduceBEq, Bool.not_true, Bool.not_false, hc] | simp only [go_sem, Nat.reduceAdd, Nat.reduceMul, Nat.reduceLeDiff, Nat.reduceLT, Nat.reduceEqDiff, Int.reduceToNat, Int.reduceLE, Int.reduceLT, List.forall_mem_cons, List.not_mem_nil, false_implies, implies_true, hr, hf0, hd0, Int.reduceBEq, Bool.not_true, Bool.not_false]))
          | refine awp_seq_k (fun K hK => ?_)
          | refine awp_block ?_
          | refine awp_region_w (by first | (simp; done) | assumption | (simp; omega)) (fun Q hQ => ?_)
          | refine awp_region_q mixed (by kernel_rfl) (by kernel_rfl) rfl (by first | (simp; done) | assumption | (simp; omega)) (fun Q hQ => ?_)
          | refine callW_quiet (hck _) ?_
          | refine callQ_quiet (hck _) ?_
          | refine callW_quiet (formed_q t.cols row (by omega) _) ?_
          | refine callQ_quiet (formed_q t.cols row (by omega) _) ?_
          | refine callW_quiet (indexFunc_rule t.rules (fun r => r.name == rule) _ _ _ (by omega) (fun a ha => keyF_q rule a _ _ (by simp only [go_sem]))) ?_
          | refine callQ_quiet (indexFunc_rule t.rules (fun r => r.name == rule) _ _ _ (by omega) (fun a ha => keyF_q rule a _ _ (by simp only [go_sem]))) ?_
          | refine Both.mk ?_ ?_
          | (refine hQ _ _ ?_; clear hQ Q)
          | (refine hQ _ ?_; clear hQ Q)
          | refine awp_cond_true rfl ?_
          | refine awp_cond_false rfl ?_
          | refine awp_skip ?_
          | (refine awp_exit ?_; simp only [go_sem, Nat.reduceEqDiff])
          | (refine awp_ret ?_; try simp only [inBlock_ret, andThen_ret])
          | ((first | refine hK _ ?_ | (clear hK K; refine hK _ ?_) | (clear hK K; clear hK K; refine hK _ ?_) | (clear hK K; clear hK K; clear hK K; refine hK _ ?_) | (clear hK K; clear hK K; clear hK K; clear hK K; refine hK _ ?_) | (clear hK K; clear hK K; clear hK K; clear hK K; clear hK K; refine hK _ ?_) | (clear hK K; clear hK K; clear hK K; clear hK K; clear hK K; clear hK K; refine hK _ ?_)); clear hK; clear K)
          | refine And.intro (by first | assumption | omega | trivial | rfl | (simp; done)) ?_
          | (refine awp_cond _ rfl (fun hc => ?_) (fun hc => ?_) <;> (try simp only [Bool.not_eq_true', Bool.not_eq_false'] at hc) <;> (try simp only [hc]))
          | (refine gdW_split (fun hc => ?_) (fun hc => ?_) <;> (try simp only [Bool.not_eq_true', Bool.not_eq_false'] at hc))
          | (refine gdQ_split (fun hc => ?_) (fun hc => ?_) <;> (try simp only [Bool.not_eq_true', Bool.not_eq_false'] at hc)))
        exact end_none hB (by first | (simp only [go_sem]; done) | (simp only [go_sem]; rfl) | rfl) (by simp)
      | true =>
        have hv : keyV t rule row = (r.cols.map (valOf t.cols row), !decide (0 ≤ idxOf (fun w => ValR.eq ⟨1, 0, []⟩ w) (r.cols.map (valOf t.cols row))), 0) := by simp [keyV, ha0, hr0, h0, hf0]
        rw [hv]
        have hlen := allP_eq_len hf0
        have hfit := alone_rule ha0 hrm
        have hcs := (fits_cols hfit).2
        rw [aloneRule_cols] at hcs
        repeat' (first
          | ((with_reducible first | refine isWL ?_ | refine isGW ?_ | refine isWQ ?_ | refine isGQ ?_); (first | simp only [go_sem, Nat.reduceAdd, Nat.reduceMul, Nat.reduceLeDiff, Nat.reduceLT, Nat.reduceEqDiff, Int.reduceToNat, Int.reduceLE, Int.reduceLT, List.forall_mem_cons, List.not_mem_nil, false_implies, implies_true, hr, hf0, hd0, h0, hix, hlr, Int.reduceBEq, Bool.not_true, Bool.not_false, List.length_map, hc] | simp only [go_sem, Nat.reduceAdd, Nat.reduceMul, Nat.reduceLeDiff, Nat.reduceLT, Nat.reduceEqDiff, Int.reduceToNat, Int.reduceLE, Int.reduceLT, List.forall_mem_cons, List.not_mem_nil, false_implies, implies_true, hr, hf0, hd0, h0, hix, hlr, Int.reduceBEq, Bool.not_true, Bool.not_false, List.length_map]))
          | refine awp_seq_k (fun K hK => ?_)
          | refine awp_block ?_
          | refine awp_region_w (by first | (simp; done) | assumption | (simp; omega)) (fun Q hQ => ?_)
          | refine awp_region_q mixed (by kernel_rfl) (by kernel_rfl) rfl (by first | (simp; done) | assumption | (simp; omega)) (fun Q hQ => ?_)
          | refine callW_quiet (hck _) ?_
          | refine callQ_quiet (hck _) ?_
          | refine callW_quiet (formed_q t.cols row (by omega) _) ?_
          | refine callQ_quiet (formed_q t.cols row (by omega) _) ?_
          | refine callW_quiet (indexFunc_rule t.rules (fun r => r.name == rule) _ _ _ (by omega) (fun a ha => keyF_q rule a _ _ (by simp only [go_sem]))) ?_
          | refine callQ_quiet (indexFunc_rule t.rules (fun r => r.name == rule) _ _ _ (by omega) (fun a ha => keyF_q rule a _ _ (by simp only [go_sem]))) ?_
          | refine Both.mk ?_ ?_
          | (refine hQ _ _ ?_; clear hQ Q)
          | (refine hQ _ ?_; clear hQ Q)
          | refine awp_cond_true rfl ?_
          | refine awp_cond_false rfl ?_
          | refine awp_skip ?_
          | (refine awp_exit ?_; simp only [go_sem, Nat.reduceEqDiff])
          | (refine awp_ret ?_; try simp only [inBlock_ret, andThen_ret])
          | ((first | refine hK _ ?_ | (clear hK K; refine hK _ ?_) | (clear hK K; clear hK K; refine hK _ ?_) | (clear hK K; clear hK K; clear hK K; refine hK _ ?_) | (clear hK K; clear hK K; clear hK K; clear hK K; refine hK _ ?_) | (clear hK K; clear hK K; clear hK K; clear hK K; clear hK K; refine hK _ ?_) | (clear hK K; clear hK K; clear hK K; clear hK K; clear hK K; clear hK K; refine hK _ ?_)); clear hK; clear K)
          | refine And.intro (by first | assumption | omega | trivial | rfl | (simp; done)) ?_
          | (refine awp_cond _ rfl (fun hc => ?_) (fun hc => ?_) <;> (try simp only [Bool.not_eq_true', Bool.not_eq_false'] at hc) <;> (try simp only [hc]))
          | (refine gdW_split (fun hc => ?_) (fun hc => ?_) <;> (try simp only [Bool.not_eq_true', Bool.not_eq_false'] at hc))
          | (refine gdQ_split (fun hc => ?_) (fun hc => ?_) <;> (try simp only [Bool.not_eq_true', Bool.not_eq_false'] at hc)))
        refine awp_loop_at (fun T n S => ∃ (i : Nat) (acc : List ValR), (i ≤ (r.cols).length ∧ acc ++ (r.cols.drop i).map (valOf t.cols row) = r.cols.map (valOf t.cols row) ∧ acc.length = i) ∧ n = (r.cols).length - i ∧ S = ⟨setT T [(37, .int .i64 (i : Int)), (10, .sl (H.length + 2) acc.length 0 acc.length), (12, .junk), (38, .junk), (39, .junk), (40, .junk), (41, .junk), (42, .junk), (43, .junk), (44, .junk), (45, .junk), (46, .junk), (47, .junk), (48, .junk), (49, .junk), (50, .junk), (51, .junk)], H ++ [.var t.cells, .var [.str rule], valObj acc]⟩) ?_ ?_
        · refine ⟨_, _, weak_nil (24) (3) (H.length + 2) (by simp) (by first | (simp; done) | (simp only [go_sem]; done) | (simp only [go_sem]; simp; done)) (by simp) ?_, 0, [], ⟨Nat.zero_le _, by simp⟩, rfl, rfl⟩
          simp only [go_sem]; simp [NilT]
        · rintro n S ⟨i, acc, ⟨hi, hinv⟩, rfl, rfl⟩
          by_cases hlt : i < (r.cols).length
          · have hw := wrap_succ hlt (by omega)
            have hd : decide (i < (r.cols).length) = true := by simpa using hlt
            obtain ⟨a, ha⟩ : ∃ a, (r.cols)[i]? = some a := ⟨_, List.getElem?_eq_getElem hlt⟩
            have hl := look_map (g := AV.str) ha
            have hmem := List.mem_of_getElem? ha
            try rw [drop_cons ha] at hinv
            obtain ⟨hinv, hal⟩ := hinv
            have ha0' := hcs a hmem
            obtain ⟨hlt2, hlk2⟩ := valOf_look hlen ha0'
            simp only [List.map_cons] at hinv
            repeat' (first
              | ((with_reducible first | refine isWL ?_ | refine isGW ?_ | refine isWQ ?_ | refine isGQ ?_); (first | simp only [go_sem, Nat.reduceAdd, Nat.reduceMul, Nat.reduceLeDiff, Nat.reduceLT, Nat.reduceEqDiff, Int.reduceToNat, Int.reduceLE, Int.reduceLT, List.forall_mem_cons, List.not_mem_nil, false_implies, implies_true, hd, hw, hl, hlt, hlt2, hlk2, ha0', List.length_map, hc] | simp only [go_sem, Nat.reduceAdd, Nat.reduceMul, Nat.reduceLeDiff, Nat.reduceLT, Nat.reduceEqDiff, Int.reduceToNat, Int.reduceLE, Int.reduceLT, List.forall_mem_cons, List.not_mem_nil, false_implies, implies_true, hd, hw, hl, hlt, hlt2, hlk2, ha0', List.length_map]))
              | refine awp_seq_k (fun K hK => ?_)
              | refine awp_block ?_
              | refine awp_region_w (by first | (simp; done) | assumption | (simp; omega)) (fun Q hQ => ?_)
              | refine awp_region_q mixed (by kernel_rfl) (by kernel_rfl) rfl (by first | (simp; done) | assumption | (simp; omega)) (fun Q hQ => ?_)
              | refine callW_quiet (place_q t.cols a (by omega) _) ?_
              | refine callQ_quiet (place_q t.cols a (by omega) _) ?_
              | refine Both.mk ?_ ?_
              | (refine hQ _ _ ?_; clear hQ Q)
              | (refine hQ _ ?_; clear hQ Q)
              | refine awp_cond_true rfl ?_
              | refine awp_cond_false rfl ?_
              | refine awp_skip ?_
              | (refine awp_exit ?_; simp only [go_sem, Nat.reduceEqDiff])
              | (refine awp_ret ?_; try simp only [inBlock_ret, andThen_ret])
              | ((first | refine hK _ ?_ | (clear hK K; refine hK _ ?_) | (clear hK K; clear hK K; refine hK _ ?_) | (clear hK K; clear hK K; clear hK K; refine hK _ ?_) | (clear hK K; clear hK K; clear hK K; clear hK K; refine hK _ ?_) | (clear hK K; clear hK K; clear hK K; clear hK K; clear hK K; refine hK _ ?_) | (clear hK K; clear hK K; clear hK K; clear hK K; clear hK K; clear hK K; refine hK _ ?_)); clear hK; clear K)
              | refine And.intro (by first | assumption | omega | trivial | rfl | (simp; done)) ?_
              | (refine awp_cond _ rfl (fun hc => ?_) (fun hc => ?_) <;> (try simp only [Bool.not_eq_true', Bool.not_eq_false'] at hc) <;> (try simp only [hc]))
              | (refine gdW_split (fun hc => ?_) (fun hc => ?_) <;> (try simp only [Bool.not_eq_true', Bool.not_eq_false'] at hc))
              | (refine gdQ_split (fun hc => ?_) (fun hc => ?_) <;> (try simp only [Bool.not_eq_true', Bool.not_eq_false'] at hc)))
            rw [andThen_normal]
            refine ⟨(r.cols).length - (i + 1), by omega, _, ?_, i + 1, acc ++ [valOf t.cols row a], ⟨by omega, ⟨by simpa using hinv, by simp; omega⟩⟩, rfl, rfl⟩
            first
              | (refine weak_junk ?_; (try simp only [go_sem]); simp [LeT]; done)
              | (simp only [go_sem, List.map_append, List.map_cons, List.map_nil, List.length_append, List.length_cons, List.length_nil, List.length_map, Nat.zero_add, List.append_assoc, List.cons_append, List.nil_append]; refine weak_junk ?_; simp [LeT]; done)
              | ((try simp only [go_sem, List.map_append, List.map_cons, List.map_nil, List.length_append, List.length_cons, List.length_nil, List.length_map, Nat.zero_add, List.append_assoc, List.cons_append, List.nil_append]); refine weak_cut _ (by first | rfl | (simp only [List.append_assoc, List.cons_append, List.nil_append]; rfl)) (by simp) (by simp [LeT]) (by simp) (by first | exact hB | (refine hB_app hB ?_; simp; done) | (refine hB_app hB ?_; simp [or_imp, forall_and]; done) | (refine hB_app hB ?_; simp; refine forall_set ?_ ?_ <;> simp; done)); done)
          · have hd : decide (i < (r.cols).length) = false := by simpa using hlt
            have hnil : (r.cols).drop i = [] := List.drop_eq_nil_of_le (by omega)
            try rw [hnil] at hinv
            obtain ⟨hinv, hal⟩ := hinv
            simp only [List.map_nil, List.append_nil] at hinv
            repeat (first
              | ((with_reducible first | refine isWL ?_ | refine isGW ?_ | refine isWQ ?_ | refine isGQ ?_); simp only [go_sem, Nat.reduceAdd, Nat.reduceMul, Nat.reduceLeDiff, Nat.reduceLT, Nat.reduceEqDiff, Int.reduceToNat, Int.reduceLE, Int.reduceLT, List.forall_mem_cons, List.not_mem_nil, false_implies, implies_true, hd])
              | refine awp_seq_k (fun K hK => ?_)
              | refine awp_block ?_
              | refine awp_region_w (by first | (simp; done) | assumption | (simp; omega)) (fun Q hQ => ?_)
              | refine awp_region_q mixed (by kernel_rfl) (by kernel_rfl) rfl (by first | (simp; done) | assumption | (simp; omega)) (fun Q hQ => ?_)
              | refine callW_quiet (QuietF.thaw (fun H' => contains_val acc ⟨1, 0, []⟩ (by omega) H') ⟨Dfz.slE (by simp only [go_sem]; rfl) (Nat.zero_le _) (by simp [ValR.av, AV.cells]) (by simp) (DfzE.same (by simp)), .same _ (by simp), trivial⟩ (by simp)) ?_
              | refine callQ_quiet (QuietF.thaw (fun H' => contains_val acc ⟨1, 0, []⟩ (by omega) H') ⟨Dfz.slE (by simp only [go_sem]; rfl) (Nat.zero_le _) (by simp [ValR.av, AV.cells]) (by simp) (DfzE.same (by simp)), .same _ (by simp), trivial⟩ (by simp)) ?_
              | refine Both.mk ?_ ?_
              | (refine hQ _ _ ?_; clear hQ Q)
              | (refine hQ _ ?_; clear hQ Q)
              | refine awp_cond_true rfl ?_
              | refine awp_cond_false rfl ?_
              | refine awp_skip ?_
              | (refine awp_exit ?_; simp only [go_sem, Nat.reduceEqDiff])
              | (refine awp_ret ?_; try simp only [inBlock_ret, andThen_ret])
              | ((first | refine hK _ ?_ | (clear hK K; refine hK _ ?_) | (clear hK K; clear hK K; refine hK _ ?_) | (clear hK K; clear hK K; clear hK K; refine hK _ ?_) | (clear hK K; clear hK K; clear hK K; clear hK K; refine hK _ ?_) | (clear hK K; clear hK K; clear hK K; clear hK K; clear hK K; refine hK _ ?_) | (clear hK K; clear hK K; clear hK K; clear hK K; clear hK K; clear hK K; refine hK _ ?_)); clear hK; clear K)
              | refine And.intro (by first | assumption | omega | trivial | rfl | (simp; done)) ?_)
            rw [← hinv]
            refine end_arr 2 acc.length 24 3 (acc.map ValR.av) hB (by first | (simp only [go_sem]; done) | (simp only [go_sem]; rfl) | rfl) rfl (by simp) ?_
            exact Ren.tupleT ⟨ren_arr rfl, .same _ (by simp), .same _ (by simp), trivial⟩
    · have hd0 : decide (idxOf (fun r => r.name == rule) t.rules < 0) = true := by simpa using h0
      have hv : keyV t rule row = ([], false, 61) := by
        simp only [keyV, ha0, if_true]
        cases hq : t.rules[(idxOf (fun r => r.name == rule) t.rules).toNat]? <;> simp [h0]
      rw [hv]
      repeat' (first
        | ((with_reducible first | refine isWL ?_ | refine isGW ?_ | refine isWQ ?_ | refine isGQ ?_); (first | simp only [go_sem, Nat.reduceAdd, Nat.reduceMul, Nat.reduceLeDiff, Nat.reduceLT, Nat.reduceEqDiff, Int.reduceToNat, Int.reduceLE, Int.reduceLT, List.forall_mem_cons, List.not_mem_nil, false_implies, implies_true, hr, hd0, Int.reduceBEq, Bool.not_true, Bool.not_false, hc] | simp only [go_sem, Nat.reduceAdd, Nat.reduceMul, Nat.reduceLeDiff, Nat.reduceLT, Nat.reduceEqDiff, Int.reduceToNat, Int.reduceLE, Int.reduceLT, List.forall_mem_cons, List.not_mem_nil, false_implies, implies_true, hr, hd0, Int.reduceBEq, Bool.not_true, Bool.not_false]))
        | refine awp_seq_k (fun K hK => ?_)
        | refine awp_block ?_
        | refine awp_region_w (by first | (simp; done) | assumption | (simp; omega)) (fun Q hQ => ?_)
        | refine awp_region_q mixed (by kernel_rfl) (by kernel_rfl) rfl (by first | (simp; done) | assumption | (simp; omega)) (fun Q hQ => ?_)
        | refine callW_quiet (hck _) ?_
        | refine callQ_quiet (hck _) ?_
        | refine callW_quiet (indexFunc_rule t.rules (fun r => r.name == rule) _ _ _ (by omega) (fun a ha => keyF_q rule a _ _ (by simp only [go_sem]))) ?_
        | refine callQ_quiet (indexFunc_rule t.rules (fun r => r.name == rule) _ _ _ (by omega) (fun a ha => keyF_q rule a _ _ (by simp only [go_sem]))) ?_
        | refine Both.mk ?_ ?_
        | (refine hQ _ _ ?_; clear hQ Q)
        | (refine hQ _ ?_; clear hQ Q)
        | refine awp_cond_true rfl ?_
        | refine awp_cond_false rfl ?_
        | refine awp_skip ?_
        | (refine awp_exit ?_; simp only [go_sem, Nat.reduceEqDiff])
        | (refine awp_ret ?_; try simp only [inBlock_ret, andThen_ret])
        | ((first | refine hK _ ?_ | (clear hK K; refine hK _ ?_) | (clear hK K; clear hK K; refine hK _ ?_) | (clear hK K; clear hK K; clear hK K; refine hK _ ?_) | (clear hK K; clear hK K; clear hK K; clear hK K; refine hK _ ?_) | (clear hK K; clear hK K; clear hK K; clear hK K; clear hK K; refine hK _ ?_) | (clear hK K; clear hK K; clear hK K; clear hK K; clear hK K; clear hK K; refine hK _ ?_)); clear hK; clear K)
        | refine And.intro (by first | assumption | omega | trivial | rfl | (simp; done)) ?_
        | (refine awp_cond _ rfl (fun hc => ?_) (fun hc => ?_) <;> (try simp only [Bool.not_eq_true', Bool.not_eq_false'] at hc) <;> (try simp only [hc]))
        | (refine gdW_split (fun hc => ?_) (fun hc => ?_) <;> (try simp only [Bool.not_eq_true', Bool.not_eq_false'] at hc))
        | (refine gdQ_split (fun hc => ?_) (fun hc => ?_) <;> (try simp only [Bool.not_eq_true', Bool.not_eq_false'] at hc)))
      exact end_none hB (by first | (simp only [go_sem]; done) | (simp only [go_sem]; rfl) | rfl) (by simp)

end Go.Proofs.Ytamoclnnakdiaaa.Abs
