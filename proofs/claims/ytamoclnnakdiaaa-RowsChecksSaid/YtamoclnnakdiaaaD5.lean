/-
  The reference's Of, Fit, Key, Turn.
  Conditions: none.
-/
import Derived.Test.YtamoclnnakdiaaaD4
import Derived.Test.YtamoclnnakdiaaaC20
namespace Go.Proofs.Ytamoclnnakdiaaa.Abs
open Go Go.RowKit
set_option linter.unusedVariables false
set_option maxRecDepth 100000
set_option maxHeartbeats 4000000
set_option linter.unusedSimpArgs false

/-- An end with a nil row, taken as an empty one. -/
theorem end_nilfz {P : Program} {fn : Func} {T : List AV} {H H1 : List AObj} {L : List AObj} {ws : List AV} (hB : HB H) (hr : resT P fn T H1 = some (.tuple (.nils :: ws))) (hH : H1 = H ++ L) (hw : ∀ x, x ∈ ws → Below' H.length x) :
    bodyEnd P fn H.length (fun x H' => x = .ret (.tuple (.fz [] :: ws)) ∧ H' = H) .ret ⟨T, H1⟩ := by
  subst hH
  refine ⟨_, hr, ⟨[.tuple (.fz [] :: ws)], H⟩, ?_, _, rfl, rfl, rfl⟩
  have h1 : Weak H.length ⟨[.tuple (.nils :: ws)], H ++ L⟩ ⟨[.tuple (.nils :: ws)], H⟩ := weak_trunc (Nat.le_refl _) (LeT.refl _) (fun x hx => by
    simp only [List.mem_singleton] at hx
    subst hx
    simp only [below_tuple, List.mem_cons]
    rintro x (rfl | hx)
    · simp
    · exact hw x hx) hB
  refine h1.trans ?_
  intro ρ w a hr
  refine ⟨ρ, ⟨⟨hr.tmps.1, ?_⟩, hr.heap, hr.nodef⟩, .refl _ ρ H w⟩
  intro k y hk
  match k, hk with
  | 0, hk =>
    simp only [List.getElem?_cons_zero, Option.some.injEq] at hk
    subst hk
    have h0 := hr.tmps.2 0 _ rfl
    generalize a.tmps.getD 0 undef = v at h0 ⊢
    cases h0 with
    | tuple _ vs g1 g2 =>
      refine .tuple _ vs (by simpa using g1) ?_
      intro k x hk
      match k, hk with
      | 0, hk =>
        simp only [List.getElem?_cons_zero, Option.some.injEq] at hk
        subst hk
        have := g2 0 .nils rfl
        generalize vs.getD 0 undef = u at this ⊢
        cases this
        exact .fz_emp _ _
      | k + 1, hk => exact g2 (k + 1) x (by simpa using hk)
  | k + 1, hk => simp at hk

def wholeL (l : List ValR) : Bool := l.all (fun v => !(v.kind == 1))

theorem refOf_q (l : List ColR) (ns : List (List UInt8)) (row : List ValR) (hl0 : l.length ≤ 140737488351232) (hn : ns.length ≤ 10000000) (hlen : l.length = row.length) (hcs : ∀ s, s ∈ ns → 0 ≤ idxOf (fun c => c.name == s) l) (H : List AObj) :
    QuietF Go.Proofs.Try.prog 55 [.fz (l.map ColR.av), .fz (ns.map .str), .fz (row.map ValR.av)] H (.tuple [.fz ((ns.map (valOf l row)).map ValR.av), .bool (wholeL (ns.map (valOf l row)))]) := by
  refine ACallF.of hb_55 (acalls_body Try.func55 rfl ?_)
  intro hB hA
  rw [args0_55]
  repeat (first
    | ((with_reducible first | refine isWL ?_ | refine isGW ?_ | refine isWQ ?_ | refine isGQ ?_); simp only [go_sem, Nat.reduceAdd, Nat.reduceMul, Nat.reduceLeDiff, Nat.reduceLT, Nat.reduceEqDiff, Int.reduceToNat, Int.reduceLE, Int.reduceLT, List.forall_mem_cons, List.not_mem_nil, false_implies, implies_true])
    | refine awp_seq_k (fun K hK => ?_)
    | refine awp_block ?_
    | refine awp_region_w (by first | (simp; done) | assumption | (simp; omega)) (fun Q hQ => ?_)
    | refine awp_region_q mixed (by kernel_rfl) (by kernel_rfl) rfl (by first | (simp; done) | assumption | (simp; omega)) (fun Q hQ => ?_)
    | refine Both.mk ?_ ?_
    | (refine hQ _ _ ?_; clear hQ Q)
    | (refine hQ _ ?_; clear hQ Q)
    | refine awp_cond_true rfl ?_
    | refine awp_cond_false rfl ?_
    | refine awp_skip ?_
    | (refine awp_exit ?_; simp only [go_sem, Nat.reduceEqDiff])
    | (refine awp_ret ?_; try simp only [inBlock_ret, andThen_ret])
    | ((first | refine hK _ ?_ | (clear hK K; refine hK _ ?_) | (clear hK K; clear hK K; refine hK _ ?_) | (clear hK K; clear hK K; clear hK K; refine hK _ ?_) | (clear hK K; clear hK K; clear hK K; clear hK K; refine hK _ ?_) | (clear hK K; clear hK K; clear hK K; clear hK K; clear hK K; refine hK _ ?_) | (clear hK K; clear hK K; clear hK K; clear hK K; clear hK K; clear hK K; refine hK _ ?_)); clear hK; clear K)
    | refine And.intro (by first | assumption | omega | trivial | rfl | (simp; done)) ?_)
  refine awp_loop_at (fun T n S => ∃ (i : Nat) (acc : List ValR) (ok : Bool), (i ≤ (ns).length ∧ acc ++ (ns.drop i).map (valOf l row) = ns.map (valOf l row) ∧ acc.length = i ∧ ok = wholeL acc) ∧ n = (ns).length - i ∧ S = ⟨setT T [(10, .int .i64 (i : Int)), (8, .sl H.length acc.length 0 acc.length), (9, .bool ok), (11, .junk), (12, .junk), (13, .junk), (14, .junk), (15, .junk), (16, .junk), (17, .junk), (18, .junk), (19, .junk), (20, .junk), (21, .junk), (22, .junk), (23, .junk), (24, .junk), (25, .junk), (26, .junk), (27, .junk), (28, .junk), (29, .junk), (30, .junk), (31, .junk), (32, .junk), (33, .junk), (34, .junk), (35, .junk), (36, .junk)], H ++ [valObj acc]⟩) ?_ ?_
  · refine ⟨_, _, weak_nil (24) (3) (H.length) (by simp) (by first | (simp; done) | (simp only [go_sem]; done) | (simp only [go_sem]; simp; done)) (by simp) ?_, 0, [], true, ⟨Nat.zero_le _, by simp [wholeL]⟩, rfl, rfl⟩
    simp only [go_sem]; simp [NilT]
  · rintro n S ⟨i, acc, ok, ⟨hi, hinv⟩, rfl, rfl⟩
    by_cases hlt : i < (ns).length
    · have hw := wrap_succ hlt (by omega)
      have hd : decide (i < (ns).length) = true := by simpa using hlt
      obtain ⟨a, ha⟩ : ∃ a, (ns)[i]? = some a := ⟨_, List.getElem?_eq_getElem hlt⟩
      have hl := look_map (g := AV.str) ha
      have hmem := List.mem_of_getElem? ha
      try rw [drop_cons ha] at hinv
      obtain ⟨hinv, hal, hok⟩ := hinv
      have h0 := hcs a hmem
      obtain ⟨hlt2, hlk2⟩ := valOf_look hlen h0
      simp only [List.map_cons] at hinv
      have hnx : wholeL (acc ++ [valOf l row a]) = (ok && !((valOf l row a).kind == 1)) := by rw [hok]; simp [wholeL]
      cases ok with
      | false =>
        repeat' (first
          | ((with_reducible first | refine isWL ?_ | refine isGW ?_ | refine isWQ ?_ | refine isGQ ?_); (first | simp only [go_sem, Nat.reduceAdd, Nat.reduceMul, Nat.reduceLeDiff, Nat.reduceLT, Nat.reduceEqDiff, Int.reduceToNat, Int.reduceLE, Int.reduceLT, List.forall_mem_cons, List.not_mem_nil, false_implies, implies_true, hd, hw, hl, hlt, hlt2, hlk2, h0, List.length_map, hc] | simp only [go_sem, Nat.reduceAdd, Nat.reduceMul, Nat.reduceLeDiff, Nat.reduceLT, Nat.reduceEqDiff, Int.reduceToNat, Int.reduceLE, Int.reduceLT, List.forall_mem_cons, List.not_mem_nil, false_implies, implies_true, hd, hw, hl, hlt, hlt2, hlk2, h0, List.length_map]))
          | refine awp_seq_k (fun K hK => ?_)
          | refine awp_block ?_
          | refine awp_region_w (by first | (simp; done) | assumption | (simp; omega)) (fun Q hQ => ?_)
          | refine awp_region_q mixed (by kernel_rfl) (by kernel_rfl) rfl (by first | (simp; done) | assumption | (simp; omega)) (fun Q hQ => ?_)
          | refine callW_quiet (refColumn_q l a hl0 _) ?_
          | refine callQ_quiet (refColumn_q l a hl0 _) ?_
          | refine Both.mk ?_ ?_
          | (refine hQ _ _ ?_; clear hQ Q)
          | (refine hQ _ ?_; clear hQ Q)
          | refine awp_cond_true rfl ?_
          | refine awp_cond_false rfl ?_
          | refine awp_skip ?_
          | (refine awp_exit ?_; simp only [go_sem, Nat.reduceEqDiff])
          | (refine awp_ret ?_; try simp only [inBlock_ret, andThen_ret])
          | ((first | refine hK _ ?_ | (clear hK K; refine hK _ ?_) | (clear hK K; clear hK K; refine hK _ ?_) | (clear hK K; clear hK K; clear hK K; refine hK _ ?_) | (clear hK K; clear hK K; clear hK K; clear hK K; refine hK _ ?_) | (clear hK K; clear hK K; clear hK K; clear hK K; clear hK K; refine hK _ ?_) | (clear hK K; clear hK K; clear hK K; clear hK K; clear hK K; clear hK K; refine hK _ ?_)); clear hK; clear K)
          | refine And.intro (by first | assumption | omega | trivial | rfl | (simp; done)) ?_
          | (refine awp_cond _ rfl (fun hc => ?_) (fun hc => ?_) <;> (try simp only [Bool.not_eq_true', Bool.not_eq_false'] at hc) <;> (try simp only [hc]))
          | (refine gdW_split (fun hc => ?_) (fun hc => ?_) <;> (try simp only [Bool.not_eq_true', Bool.not_eq_false'] at hc))
          | (refine gdQ_split (fun hc => ?_) (fun hc => ?_) <;> (try simp only [Bool.not_eq_true', Bool.not_eq_false'] at hc)))
        rw [andThen_normal]
        refine ⟨(ns).length - (i + 1), by omega, _, ?_, i + 1, acc ++ [valOf l row a], false, ⟨by omega, ⟨by simpa using hinv, by simp; omega, by rw [hnx]; rfl⟩⟩, rfl, rfl⟩
        first
          | (refine weak_junk ?_; (try simp only [go_sem]); simp [LeT]; done)
          | (simp only [go_sem, List.map_append, List.map_cons, List.map_nil, List.length_append, List.length_cons, List.length_nil, List.length_map, Nat.zero_add, List.append_assoc, List.cons_append, List.nil_append]; refine weak_junk ?_; simp [LeT]; done)
          | ((try simp only [go_sem, List.map_append, List.map_cons, List.map_nil, List.length_append, List.length_cons, List.length_nil, List.length_map, Nat.zero_add, List.append_assoc, List.cons_append, List.nil_append]); refine weak_cut _ (by first | rfl | (simp only [List.append_assoc, List.cons_append, List.nil_append]; rfl)) (by simp) (by simp [LeT]) (by simp) (by first | exact hB | (refine hB_app hB ?_; simp; done) | (refine hB_app hB ?_; simp [or_imp, forall_and]; done) | (refine hB_app hB ?_; simp; refine forall_set ?_ ?_ <;> simp; done)); done)
      | true =>
        cases hk : ((valOf l row a).kind == 1) with
        | false =>
          repeat' (first
            | ((with_reducible first | refine isWL ?_ | refine isGW ?_ | refine isWQ ?_ | refine isGQ ?_); (first | simp only [go_sem, Nat.reduceAdd, Nat.reduceMul, Nat.reduceLeDiff, Nat.reduceLT, Nat.reduceEqDiff, Int.reduceToNat, Int.reduceLE, Int.reduceLT, List.forall_mem_cons, List.not_mem_nil, false_implies, implies_true, hd, hw, hl, hlt, hlt2, hlk2, h0, hk, List.length_map, Bool.not_false, hc] | simp only [go_sem, Nat.reduceAdd, Nat.reduceMul, Nat.reduceLeDiff, Nat.reduceLT, Nat.reduceEqDiff, Int.reduceToNat, Int.reduceLE, Int.reduceLT, List.forall_mem_cons, List.not_mem_nil, false_implies, implies_true, hd, hw, hl, hlt, hlt2, hlk2, h0, hk, List.length_map, Bool.not_false]))
            | refine awp_seq_k (fun K hK => ?_)
            | refine awp_block ?_
            | refine awp_region_w (by first | (simp; done) | assumption | (simp; omega)) (fun Q hQ => ?_)
            | refine awp_region_q mixed (by kernel_rfl) (by kernel_rfl) rfl (by first | (simp; done) | assumption | (simp; omega)) (fun Q hQ => ?_)
            | refine callW_quiet (refColumn_q l a hl0 _) ?_
            | refine callQ_quiet (refColumn_q l a hl0 _) ?_
            | refine Both.mk ?_ ?_
            | (refine hQ _ _ ?_; clear hQ Q)
            | (refine hQ _ ?_; clear hQ Q)
            | refine awp_cond_true rfl ?_
            | refine awp_cond_false rfl ?_
            | refine awp_skip ?_
            | (refine awp_exit ?_; simp only [go_sem, Nat.reduceEqDiff])
            | (refine awp_ret ?_; try simp only [inBlock_ret, andThen_ret])
            | ((first | refine hK _ ?_ | (clear hK K; refine hK _ ?_) | (clear hK K; clear hK K; refine hK _ ?_) | (clear hK K; clear hK K; clear hK K; refine hK _ ?_) | (clear hK K; clear hK K; clear hK K; clear hK K; refine hK _ ?_) | (clear hK K; clear hK K; clear hK K; clear hK K; clear hK K; refine hK _ ?_) | (clear hK K; clear hK K; clear hK K; clear hK K; clear hK K; clear hK K; refine hK _ ?_)); clear hK; clear K)
            | refine And.intro (by first | assumption | omega | trivial | rfl | (simp; done)) ?_
            | (refine awp_cond _ rfl (fun hc => ?_) (fun hc => ?_) <;> (try simp only [Bool.not_eq_true', Bool.not_eq_false'] at hc) <;> (try simp only [hc]))
            | (refine gdW_split (fun hc => ?_) (fun hc => ?_) <;> (try simp only [Bool.not_eq_true', Bool.not_eq_false'] at hc))
            | (refine gdQ_split (fun hc => ?_) (fun hc => ?_) <;> (try simp only [Bool.not_eq_true', Bool.not_eq_false'] at hc)))
          rw [andThen_normal]
          refine ⟨(ns).length - (i + 1), by omega, _, ?_, i + 1, acc ++ [valOf l row a], true, ⟨by omega, ⟨by simpa using hinv, by simp; omega, by rw [hnx, hk]; rfl⟩⟩, rfl, rfl⟩
          first
            | (refine weak_junk ?_; (try simp only [go_sem]); simp [LeT]; done)
            | (simp only [go_sem, List.map_append, List.map_cons, List.map_nil, List.length_append, List.length_cons, List.length_nil, List.length_map, Nat.zero_add, List.append_assoc, List.cons_append, List.nil_append]; refine weak_junk ?_; simp [LeT]; done)
            | ((try simp only [go_sem, List.map_append, List.map_cons, List.map_nil, List.length_append, List.length_cons, List.length_nil, List.length_map, Nat.zero_add, List.append_assoc, List.cons_append, List.nil_append]); refine weak_cut _ (by first | rfl | (simp only [List.append_assoc, List.cons_append, List.nil_append]; rfl)) (by simp) (by simp [LeT]) (by simp) (by first | exact hB | (refine hB_app hB ?_; simp; done) | (refine hB_app hB ?_; simp [or_imp, forall_and]; done) | (refine hB_app hB ?_; simp; refine forall_set ?_ ?_ <;> simp; done)); done)
        | true =>
          repeat' (first
            | ((with_reducible first | refine isWL ?_ | refine isGW ?_ | refine isWQ ?_ | refine isGQ ?_); (first | simp only [go_sem, Nat.reduceAdd, Nat.reduceMul, Nat.reduceLeDiff, Nat.reduceLT, Nat.reduceEqDiff, Int.reduceToNat, Int.reduceLE, Int.reduceLT, List.forall_mem_cons, List.not_mem_nil, false_implies, implies_true, hd, hw, hl, hlt, hlt2, hlk2, h0, hk, List.length_map, Bool.not_true, hc] | simp only [go_sem, Nat.reduceAdd, Nat.reduceMul, Nat.reduceLeDiff, Nat.reduceLT, Nat.reduceEqDiff, Int.reduceToNat, Int.reduceLE, Int.reduceLT, List.forall_mem_cons, List.not_mem_nil, false_implies, implies_true, hd, hw, hl, hlt, hlt2, hlk2, h0, hk, List.length_map, Bool.not_true]))
            | refine awp_seq_k (fun K hK => ?_)
            | refine awp_block ?_
            | refine awp_region_w (by first | (simp; done) | assumption | (simp; omega)) (fun Q hQ => ?_)
            | refine awp_region_q mixed (by kernel_rfl) (by kernel_rfl) rfl (by first | (simp; done) | assumption | (simp; omega)) (fun Q hQ => ?_)
            | refine callW_quiet (refColumn_q l a hl0 _) ?_
            | refine callQ_quiet (refColumn_q l a hl0 _) ?_
            | refine Both.mk ?_ ?_
            | (refine hQ _ _ ?_; clear hQ Q)
            | (refine hQ _ ?_; clear hQ Q)
            | refine awp_cond_true rfl ?_
            | refine awp_cond_false rfl ?_
            | refine awp_skip ?_
            | (refine awp_exit ?_; simp only [go_sem, Nat.reduceEqDiff])
            | (refine awp_ret ?_; try simp only [inBlock_ret, andThen_ret])
            | ((first | refine hK _ ?_ | (clear hK K; refine hK _ ?_) | (clear hK K; clear hK K; refine hK _ ?_) | (clear hK K; clear hK K; clear hK K; refine hK _ ?_) | (clear hK K; clear hK K; clear hK K; clear hK K; refine hK _ ?_) | (clear hK K; clear hK K; clear hK K; clear hK K; clear hK K; refine hK _ ?_) | (clear hK K; clear hK K; clear hK K; clear hK K; clear hK K; clear hK K; refine hK _ ?_)); clear hK; clear K)
            | refine And.intro (by first | assumption | omega | trivial | rfl | (simp; done)) ?_
            | (refine awp_cond _ rfl (fun hc => ?_) (fun hc => ?_) <;> (try simp only [Bool.not_eq_true', Bool.not_eq_false'] at hc) <;> (try simp only [hc]))
            | (refine gdW_split (fun hc => ?_) (fun hc => ?_) <;> (try simp only [Bool.not_eq_true', Bool.not_eq_false'] at hc))
            | (refine gdQ_split (fun hc => ?_) (fun hc => ?_) <;> (try simp only [Bool.not_eq_true', Bool.not_eq_false'] at hc)))
          rw [andThen_normal]
          refine ⟨(ns).length - (i + 1), by omega, _, ?_, i + 1, acc ++ [valOf l row a], false, ⟨by omega, ⟨by simpa using hinv, by simp; omega, by rw [hnx, hk]; rfl⟩⟩, rfl, rfl⟩
          first
            | (refine weak_junk ?_; (try simp only [go_sem]); simp [LeT]; done)
            | (simp only [go_sem, List.map_append, List.map_cons, List.map_nil, List.length_append, List.length_cons, List.length_nil, List.length_map, Nat.zero_add, List.append_assoc, List.cons_append, List.nil_append]; refine weak_junk ?_; simp [LeT]; done)
            | ((try simp only [go_sem, List.map_append, List.map_cons, List.map_nil, List.length_append, List.length_cons, List.length_nil, List.length_map, Nat.zero_add, List.append_assoc, List.cons_append, List.nil_append]); refine weak_cut _ (by first | rfl | (simp only [List.append_assoc, List.cons_append, List.nil_append]; rfl)) (by simp) (by simp [LeT]) (by simp) (by first | exact hB | (refine hB_app hB ?_; simp; done) | (refine hB_app hB ?_; simp [or_imp, forall_and]; done) | (refine hB_app hB ?_; simp; refine forall_set ?_ ?_ <;> simp; done)); done)
    · have hd : decide (i < (ns).length) = false := by simpa using hlt
      have hnil : (ns).drop i = [] := List.drop_eq_nil_of_le (by omega)
      try rw [hnil] at hinv
      obtain ⟨hinv, hal, hok⟩ := hinv
      simp only [List.map_nil, List.append_nil] at hinv
      repeat (first
        | ((with_reducible first | refine isWL ?_ | refine isGW ?_ | refine isWQ ?_ | refine isGQ ?_); simp only [go_sem, Nat.reduceAdd, Nat.reduceMul, Nat.reduceLeDiff, Nat.reduceLT, Nat.reduceEqDiff, Int.reduceToNat, Int.reduceLE, Int.reduceLT, List.forall_mem_cons, List.not_mem_nil, false_implies, implies_true, hd, List.length_map])
        | refine awp_seq_k (fun K hK => ?_)
        | refine awp_block ?_
        | refine awp_region_w (by first | (simp; done) | assumption | (simp; omega)) (fun Q hQ => ?_)
        | refine awp_region_q mixed (by kernel_rfl) (by kernel_rfl) rfl (by first | (simp; done) | assumption | (simp; omega)) (fun Q hQ => ?_)
        | refine Both.mk ?_ ?_
        | (refine hQ _ _ ?_; clear hQ Q)
        | (refine hQ _ ?_; clear hQ Q)
        | refine awp_cond_true rfl ?_
        | refine awp_cond_false rfl ?_
        | refine awp_skip ?_
        | (refine awp_exit ?_; simp only [go_sem, Nat.reduceEqDiff])
        | (refine awp_ret ?_; try simp only [inBlock_ret, andThen_ret])
        | ((first | refine hK _ ?_ | (clear hK K; refine hK _ ?_) | (clear hK K; clear hK K; refine hK _ ?_) | (clear hK K; clear hK K; clear hK K; refine hK _ ?_) | (clear hK K; clear hK K; clear hK K; clear hK K; refine hK _ ?_) | (clear hK K; clear hK K; clear hK K; clear hK K; clear hK K; refine hK _ ?_) | (clear hK K; clear hK K; clear hK K; clear hK K; clear hK K; clear hK K; refine hK _ ?_)); clear hK; clear K)
        | refine And.intro (by first | assumption | omega | trivial | rfl | (simp; done)) ?_)
      rw [← hinv, ← hok]
      refine end_dfz _ hB (by first | (simp only [go_sem]; done) | (simp only [go_sem]; rfl) | rfl) rfl ?_
      exact Dfz.tupleL ⟨Dfz.slE (by simp only [go_sem]; rfl) (by simp) (by simp [ValR.av, AV.cells]) (by simp) (DfzE.same (by simp)), .same _ (by simp), trivial⟩

theorem null_all {l : List ColR} {row : List ValR} : allP nullP l row = allP (fun v c => nullP c v) row l := allP_comm (fun _ _ => rfl) _ _

theorem refFit_q (t : TableR) (row : List ValR) (ht : t.fit) (H : List AObj) : QuietF Go.Proofs.Try.prog 24 [TableR.av t, .fz (row.map ValR.av)] H (.int .i64 (fitE t row)) := by
  refine ACallF.of hb_24 (acalls_body Try.func24 rfl ?_)
  intro hB hA
  rw [args0_24]
  have ht' := ht
  obtain ⟨t1, t2, t3, t4, t5, t6, t7⟩ := ht'
  have hri := (alone_right t).symm
  cases ha0 : aloneB t with
  | false =>
    have hv : fitE t row = 1 := by simp [fitE, ha0]
    rw [ha0] at hri
    rw [hv]
    repeat' (first
      | ((with_reducible first | refine isWL ?_ | refine isGW ?_ | refine isWQ ?_ | refine isGQ ?_ | refine isWE ?_ | refine isNE ?_); (first | simp only [and_assoc, true_and, go_sem, Nat.reduceAdd, Nat.reduceMul, Nat.reduceLeDiff, Nat.reduceLT, Nat.reduceEqDiff, Int.reduceToNat, Int.reduceLE, Int.reduceLT, List.forall_mem_cons, List.not_mem_nil, false_implies, implies_true, hri, Bool.not_false, hc] | simp only [and_assoc, true_and, go_sem, Nat.reduceAdd, Nat.reduceMul, Nat.reduceLeDiff, Nat.reduceLT, Nat.reduceEqDiff, Int.reduceToNat, Int.reduceLE, Int.reduceLT, List.forall_mem_cons, List.not_mem_nil, false_implies, implies_true, hri, Bool.not_false]))
      | refine awp_seq_k (fun K hK => ?_)
      | refine awp_block ?_
      | refine awp_region_w (by first | (simp; done) | assumption | (simp; omega)) (fun Q hQ => ?_)
      | refine awp_region_e [10, 11] [.quiet [0, 1], .quiet [0, 1], .quiet [0, 1], .quiet [0, 1], .quiet [0, 1], .quiet [0, 1], .quiet [0, 1], .quiet [0, 1], .quiet [0, 1], .quiet [0, 1], .eff 0, .eff 1] [53, 54, 55, 56, 57, 58, 59, 60, 61, 62, 8] mixed (by kernel_rfl) (by kernel_rfl) (by kernel_rfl) rfl rfl ?_
      | refine awp_region_q mixed (by kernel_rfl) (by kernel_rfl) rfl (by first | (simp; done) | assumption | (simp; omega)) (fun Q hQ => ?_)
      | refine callW_quiet (refRight_q t ht _) ?_
      | refine callQ_quiet (refRight_q t ht _) ?_
      | refine callE_quiet (refRight_q t ht _) ?_
      | refine And.intro (callR_quiet (refRight_q t ht _) rfl) ?_
      | refine Both.mk ?_ ?_
      | (refine hQ _ _ ?_; clear hQ Q)
      | (refine hQ _ ?_; clear hQ Q)
      | refine awp_cond_true rfl ?_
      | refine awp_cond_false rfl ?_
      | refine awp_skip ?_
      | (refine awp_exit ?_; simp only [go_sem, Nat.reduceEqDiff])
      | (refine awp_ret ?_; try simp only [inBlock_ret, andThen_ret])
      | ((first | refine hK _ ?_ | (clear hK K; refine hK _ ?_) | (clear hK K; clear hK K; refine hK _ ?_) | (clear hK K; clear hK K; clear hK K; refine hK _ ?_) | (clear hK K; clear hK K; clear hK K; clear hK K; refine hK _ ?_) | (clear hK K; clear hK K; clear hK K; clear hK K; clear hK K; refine hK _ ?_) | (clear hK K; clear hK K; clear hK K; clear hK K; clear hK K; clear hK K; refine hK _ ?_)); clear hK; clear K)
      | refine And.intro (by first | assumption | omega | trivial | rfl | (simp; done)) ?_
      | (refine awp_cond _ rfl (fun hc => ?_) (fun hc => ?_) <;> (try simp only [Bool.not_eq_true', Bool.not_eq_false'] at hc) <;> (try simp only [hc]))
      | (refine gdW_split (fun hc => ?_) (fun hc => ?_) <;> (try simp only [Bool.not_eq_true', Bool.not_eq_false'] at hc))
      | (refine gdQ_split (fun hc => ?_) (fun hc => ?_) <;> (try simp only [Bool.not_eq_true', Bool.not_eq_false'] at hc)))
    first | exact end_quiet0 rfl rfl | exact end_quiet hB rfl rfl (by simp)
  | true =>
    rw [ha0] at hri
    cases hf0 : allP formP t.cols row with
    | false =>
      have hv : fitE t row = 100 := by simp [fitE, ha0, hf0]
      rw [hv]
      repeat' (first
        | ((with_reducible first | refine isWL ?_ | refine isGW ?_ | refine isWQ ?_ | refine isGQ ?_ | refine isWE ?_ | refine isNE ?_); (first | simp only [and_assoc, true_and, go_sem, Nat.reduceAdd, Nat.reduceMul, Nat.reduceLeDiff, Nat.reduceLT, Nat.reduceEqDiff, Int.reduceToNat, Int.reduceLE, Int.reduceLT, List.forall_mem_cons, List.not_mem_nil, false_implies, implies_true, hri, hf0, Bool.not_true, Bool.not_false, hc] | simp only [and_assoc, true_and, go_sem, Nat.reduceAdd, Nat.reduceMul, Nat.reduceLeDiff, Nat.reduceLT, Nat.reduceEqDiff, Int.reduceToNat, Int.reduceLE, Int.reduceLT, List.forall_mem_cons, List.not_mem_nil, false_implies, implies_true, hri, hf0, Bool.not_true, Bool.not_false]))
        | refine awp_seq_k (fun K hK => ?_)
        | refine awp_block ?_
        | refine awp_region_w (by first | (simp; done) | assumption | (simp; omega)) (fun Q hQ => ?_)
        | refine awp_region_e [10, 11] [.quiet [0, 1], .quiet [0, 1], .quiet [0, 1], .quiet [0, 1], .quiet [0, 1], .quiet [0, 1], .quiet [0, 1], .quiet [0, 1], .quiet [0, 1], .quiet [0, 1], .eff 0, .eff 1] [53, 54, 55, 56, 57, 58, 59, 60, 61, 62, 8] mixed (by kernel_rfl) (by kernel_rfl) (by kernel_rfl) rfl rfl ?_
        | refine awp_region_q mixed (by kernel_rfl) (by kernel_rfl) rfl (by first | (simp; done) | assumption | (simp; omega)) (fun Q hQ => ?_)
        | refine callW_quiet (refRight_q t ht _) ?_
        | refine callQ_quiet (refRight_q t ht _) ?_
        | refine callE_quiet (refRight_q t ht _) ?_
        | refine And.intro (callR_quiet (refRight_q t ht _) rfl) ?_
        | refine callW_quiet (refForm_q t.cols row (by omega) _) ?_
        | refine callQ_quiet (refForm_q t.cols row (by omega) _) ?_
        | refine callE_quiet (refForm_q t.cols row (by omega) _) ?_
        | refine And.intro (callR_quiet (refForm_q t.cols row (by omega) _) rfl) ?_
        | refine Both.mk ?_ ?_
        | (refine hQ _ _ ?_; clear hQ Q)
        | (refine hQ _ ?_; clear hQ Q)
        | refine awp_cond_true rfl ?_
        | refine awp_cond_false rfl ?_
        | refine awp_skip ?_
        | (refine awp_exit ?_; simp only [go_sem, Nat.reduceEqDiff])
        | (refine awp_ret ?_; try simp only [inBlock_ret, andThen_ret])
        | ((first | refine hK _ ?_ | (clear hK K; refine hK _ ?_) | (clear hK K; clear hK K; refine hK _ ?_) | (clear hK K; clear hK K; clear hK K; refine hK _ ?_) | (clear hK K; clear hK K; clear hK K; clear hK K; refine hK _ ?_) | (clear hK K; clear hK K; clear hK K; clear hK K; clear hK K; refine hK _ ?_) | (clear hK K; clear hK K; clear hK K; clear hK K; clear hK K; clear hK K; refine hK _ ?_)); clear hK; clear K)
        | refine And.intro (by first | assumption | omega | trivial | rfl | (simp; done)) ?_
        | (refine awp_cond _ rfl (fun hc => ?_) (fun hc => ?_) <;> (try simp only [Bool.not_eq_true', Bool.not_eq_false'] at hc) <;> (try simp only [hc]))
        | (refine gdW_split (fun hc => ?_) (fun hc => ?_) <;> (try simp only [Bool.not_eq_true', Bool.not_eq_false'] at hc))
        | (refine gdQ_split (fun hc => ?_) (fun hc => ?_) <;> (try simp only [Bool.not_eq_true', Bool.not_eq_false'] at hc)))
      first | exact end_quiet0 rfl rfl | exact end_quiet hB rfl rfl (by simp)
    | true =>
      have hlen := allP_eq_len hf0
      have hv : fitE t row = if allP nullP t.cols row = true then fitL t.cols row t.rules else 101 := by simp [fitE, ha0, hf0]
      rw [hv]
      refine awp_seq_k (fun K hK => ?_)
      repeat (first
        | ((with_reducible first | refine isWL ?_ | refine isGW ?_ | refine isWQ ?_ | refine isGQ ?_ | refine isWE ?_ | refine isNE ?_); simp only [and_assoc, true_and, go_sem, Nat.reduceAdd, Nat.reduceMul, Nat.reduceLeDiff, Nat.reduceLT, Nat.reduceEqDiff, Int.reduceToNat, Int.reduceLE, Int.reduceLT, List.forall_mem_cons, List.not_mem_nil, false_implies, implies_true])
        | refine awp_region_w (by first | (simp; done) | assumption | (simp; omega)) (fun Q hQ => ?_)
        | refine awp_region_e [10, 11] [.quiet [0, 1], .quiet [0, 1], .quiet [0, 1], .quiet [0, 1], .quiet [0, 1], .quiet [0, 1], .quiet [0, 1], .quiet [0, 1], .quiet [0, 1], .quiet [0, 1], .eff 0, .eff 1] [53, 54, 55, 56, 57, 58, 59, 60, 61, 62, 8] mixed (by kernel_rfl) (by kernel_rfl) (by kernel_rfl) rfl rfl ?_
        | refine awp_region_q mixed (by kernel_rfl) (by kernel_rfl) rfl (by first | (simp; done) | assumption | (simp; omega)) (fun Q hQ => ?_)
        | refine Both.mk ?_ ?_
        | (refine hQ _ _ ?_; clear hQ Q)
        | (refine hQ _ ?_; clear hQ Q)
        | refine awp_cond_true rfl ?_
        | refine awp_cond_false rfl ?_
        | refine awp_skip ?_
        | (refine awp_exit ?_; simp only [go_sem, Nat.reduceEqDiff])
        | (refine awp_ret ?_; try simp only [inBlock_ret, andThen_ret])
        | ((first | refine hK _ ?_ | (clear hK K; refine hK _ ?_) | (clear hK K; clear hK K; refine hK _ ?_) | (clear hK K; clear hK K; clear hK K; refine hK _ ?_) | (clear hK K; clear hK K; clear hK K; clear hK K; refine hK _ ?_) | (clear hK K; clear hK K; clear hK K; clear hK K; clear hK K; refine hK _ ?_) | (clear hK K; clear hK K; clear hK K; clear hK K; clear hK K; clear hK K; refine hK _ ?_)); clear hK; clear K)
        | refine And.intro (by first | assumption | omega | trivial | rfl | (simp; done)) ?_)
      refine awp_seq_at [(4, .junk), (9, .junk), (10, .junk), (11, .junk)] (H ++ [.var t.cells]) (fun K hK => ?_) ?_
      · repeat' (first
          | ((with_reducible first | refine isWL ?_ | refine isGW ?_ | refine isWQ ?_ | refine isGQ ?_ | refine isWE ?_ | refine isNE ?_); (first | simp only [and_assoc, true_and, go_sem, Nat.reduceAdd, Nat.reduceMul, Nat.reduceLeDiff, Nat.reduceLT, Nat.reduceEqDiff, Int.reduceToNat, Int.reduceLE, Int.reduceLT, List.forall_mem_cons, List.not_mem_nil, false_implies, implies_true, hri, Bool.not_true, hc] | simp only [and_assoc, true_and, go_sem, Nat.reduceAdd, Nat.reduceMul, Nat.reduceLeDiff, Nat.reduceLT, Nat.reduceEqDiff, Int.reduceToNat, Int.reduceLE, Int.reduceLT, List.forall_mem_cons, List.not_mem_nil, false_implies, implies_true, hri, Bool.not_true]))
          | refine awp_seq_k (fun K hK => ?_)
          | refine awp_block ?_
          | refine awp_region_w (by first | (simp; done) | assumption | (simp; omega)) (fun Q hQ => ?_)
          | refine awp_region_e [10, 11] [.quiet [0, 1], .quiet [0, 1], .quiet [0, 1], .quiet [0, 1], .quiet [0, 1], .quiet [0, 1], .quiet [0, 1], .quiet [0, 1], .quiet [0, 1], .quiet [0, 1], .eff 0, .eff 1] [53, 54, 55, 56, 57, 58, 59, 60, 61, 62, 8] mixed (by kernel_rfl) (by kernel_rfl) (by kernel_rfl) rfl rfl ?_
          | refine awp_region_q mixed (by kernel_rfl) (by kernel_rfl) rfl (by first | (simp; done) | assumption | (simp; omega)) (fun Q hQ => ?_)
          | refine callW_quiet (refRight_q t ht _) ?_
          | refine callQ_quiet (refRight_q t ht _) ?_
          | refine callE_quiet (refRight_q t ht _) ?_
          | refine And.intro (callR_quiet (refRight_q t ht _) rfl) ?_
          | refine Both.mk ?_ ?_
          | (refine hQ _ _ ?_; clear hQ Q)
          | (refine hQ _ ?_; clear hQ Q)
          | refine awp_cond_true rfl ?_
          | refine awp_cond_false rfl ?_
          | refine awp_skip ?_
          | (refine awp_exit ?_; simp only [go_sem, Nat.reduceEqDiff])
          | (refine awp_ret ?_; try simp only [inBlock_ret, andThen_ret])
          | ((first | refine hK _ ?_ | (clear hK K; refine hK _ ?_) | (clear hK K; clear hK K; refine hK _ ?_) | (clear hK K; clear hK K; clear hK K; refine hK _ ?_) | (clear hK K; clear hK K; clear hK K; clear hK K; refine hK _ ?_) | (clear hK K; clear hK K; clear hK K; clear hK K; clear hK K; refine hK _ ?_) | (clear hK K; clear hK K; clear hK K; clear hK K; clear hK K; clear hK K; refine hK _ ?_)); clear hK; clear K)
          | refine And.intro (by first | assumption | omega | trivial | rfl | (simp; done)) ?_
          | (refine awp_cond _ rfl (fun hc => ?_) (fun hc => ?_) <;> (try simp only [Bool.not_eq_true', Bool.not_eq_false'] at hc) <;> (try simp only [hc]))
          | (refine gdW_split (fun hc => ?_) (fun hc => ?_) <;> (try simp only [Bool.not_eq_true', Bool.not_eq_false'] at hc))
          | (refine gdQ_split (fun hc => ?_) (fun hc => ?_) <;> (try simp only [Bool.not_eq_true', Bool.not_eq_false'] at hc)))
        first
          | (refine weak_junk ?_; (try simp only [go_sem]); simp [LeT]; done)
          | (simp only [go_sem, List.map_append, List.map_cons, List.map_nil, List.length_append, List.length_cons, List.length_nil, List.length_map, Nat.zero_add, List.append_assoc, List.cons_append, List.nil_append]; refine weak_junk ?_; simp [LeT]; done)
          | ((try simp only [go_sem, List.map_append, List.map_cons, List.map_nil, List.length_append, List.length_cons, List.length_nil, List.length_map, Nat.zero_add, List.append_assoc, List.cons_append, List.nil_append]); refine weak_cut _ (by first | rfl | (simp only [List.append_assoc, List.cons_append, List.nil_append]; rfl)) (by simp) (by simp [LeT]) (by simp) (by first | exact hB | (refine hB_app hB ?_; simp; done) | (refine hB_app hB ?_; simp [or_imp, forall_and]; done) | (refine hB_app hB ?_; simp; refine forall_set ?_ ?_ <;> simp; done)); done)
      refine awp_seq_at [(4, .junk), (12, .junk), (13, .junk), (14, .junk), (15, .junk), (16, .junk)] (H ++ [.var t.cells]) (fun K hK => ?_) ?_
      · repeat' (first
          | ((with_reducible first | refine isWL ?_ | refine isGW ?_ | refine isWQ ?_ | refine isGQ ?_ | refine isWE ?_ | refine isNE ?_); (first | simp only [and_assoc, true_and, go_sem, Nat.reduceAdd, Nat.reduceMul, Nat.reduceLeDiff, Nat.reduceLT, Nat.reduceEqDiff, Int.reduceToNat, Int.reduceLE, Int.reduceLT, List.forall_mem_cons, List.not_mem_nil, false_implies, implies_true, hf0, Bool.not_true, hc] | simp only [and_assoc, true_and, go_sem, Nat.reduceAdd, Nat.reduceMul, Nat.reduceLeDiff, Nat.reduceLT, Nat.reduceEqDiff, Int.reduceToNat, Int.reduceLE, Int.reduceLT, List.forall_mem_cons, List.not_mem_nil, false_implies, implies_true, hf0, Bool.not_true]))
          | refine awp_seq_k (fun K hK => ?_)
          | refine awp_block ?_
          | refine awp_region_w (by first | (simp; done) | assumption | (simp; omega)) (fun Q hQ => ?_)
          | refine awp_region_e [10, 11] [.quiet [0, 1], .quiet [0, 1], .quiet [0, 1], .quiet [0, 1], .quiet [0, 1], .quiet [0, 1], .quiet [0, 1], .quiet [0, 1], .quiet [0, 1], .quiet [0, 1], .eff 0, .eff 1] [53, 54, 55, 56, 57, 58, 59, 60, 61, 62, 8] mixed (by kernel_rfl) (by kernel_rfl) (by kernel_rfl) rfl rfl ?_
          | refine awp_region_q mixed (by kernel_rfl) (by kernel_rfl) rfl (by first | (simp; done) | assumption | (simp; omega)) (fun Q hQ => ?_)
          | refine callW_quiet (refForm_q t.cols row (by omega) _) ?_
          | refine callQ_quiet (refForm_q t.cols row (by omega) _) ?_
          | refine callE_quiet (refForm_q t.cols row (by omega) _) ?_
          | refine And.intro (callR_quiet (refForm_q t.cols row (by omega) _) rfl) ?_
          | refine Both.mk ?_ ?_
          | (refine hQ _ _ ?_; clear hQ Q)
          | (refine hQ _ ?_; clear hQ Q)
          | refine awp_cond_true rfl ?_
          | refine awp_cond_false rfl ?_
          | refine awp_skip ?_
          | (refine awp_exit ?_; simp only [go_sem, Nat.reduceEqDiff])
          | (refine awp_ret ?_; try simp only [inBlock_ret, andThen_ret])
          | ((first | refine hK _ ?_ | (clear hK K; refine hK _ ?_) | (clear hK K; clear hK K; refine hK _ ?_) | (clear hK K; clear hK K; clear hK K; refine hK _ ?_) | (clear hK K; clear hK K; clear hK K; clear hK K; refine hK _ ?_) | (clear hK K; clear hK K; clear hK K; clear hK K; clear hK K; refine hK _ ?_) | (clear hK K; clear hK K; clear hK K; clear hK K; clear hK K; clear hK K; refine hK _ ?_)); clear hK; clear K)
          | refine And.intro (by first | assumption | omega | trivial | rfl | (simp; done)) ?_
          | (refine awp_cond _ rfl (fun hc => ?_) (fun hc => ?_) <;> (try simp only [Bool.not_eq_true', Bool.not_eq_false'] at hc) <;> (try simp only [hc]))
          | (refine gdW_split (fun hc => ?_) (fun hc => ?_) <;> (try simp only [Bool.not_eq_true', Bool.not_eq_false'] at hc))
          | (refine gdQ_split (fun hc => ?_) (fun hc => ?_) <;> (try simp only [Bool.not_eq_true', Bool.not_eq_false'] at hc)))
        first
          | (refine weak_junk ?_; (try simp only [go_sem]); simp [LeT]; done)
          | (simp only [go_sem, List.map_append, List.map_cons, List.map_nil, List.length_append, List.length_cons, List.length_nil, List.length_map, Nat.zero_add, List.append_assoc, List.cons_append, List.nil_append]; refine weak_junk ?_; simp [LeT]; done)
          | ((try simp only [go_sem, List.map_append, List.map_cons, List.map_nil, List.length_append, List.length_cons, List.length_nil, List.length_map, Nat.zero_add, List.append_assoc, List.cons_append, List.nil_append]); refine weak_cut _ (by first | rfl | (simp only [List.append_assoc, List.cons_append, List.nil_append]; rfl)) (by simp) (by simp [LeT]) (by simp) (by first | exact hB | (refine hB_app hB ?_; simp; done) | (refine hB_app hB ?_; simp [or_imp, forall_and]; done) | (refine hB_app hB ?_; simp; refine forall_set ?_ ?_ <;> simp; done)); done)
      refine awp_seq_fact (allP nullP t.cols row = true) [(4, .junk), (5, .junk), (17, .junk), (18, .junk), (19, .junk), (20, .junk), (21, .junk), (22, .junk), (23, .junk), (24, .junk), (25, .junk), (26, .junk), (27, .junk), (28, .junk), (29, .junk), (30, .junk), (31, .junk), (32, .junk), (33, .junk), (34, .junk), (35, .junk), (36, .junk), (37, .junk)] (H ++ [.var t.cells]) (fun K hK => ?_) (fun hfact => ?_)
      · repeat (first
          | ((with_reducible first | refine isWL ?_ | refine isGW ?_ | refine isWQ ?_ | refine isGQ ?_ | refine isWE ?_ | refine isNE ?_); simp only [and_assoc, true_and, go_sem, Nat.reduceAdd, Nat.reduceMul, Nat.reduceLeDiff, Nat.reduceLT, Nat.reduceEqDiff, Int.reduceToNat, Int.reduceLE, Int.reduceLT, List.forall_mem_cons, List.not_mem_nil, false_implies, implies_true])
          | refine awp_seq_k (fun K hK => ?_)
          | refine awp_block ?_
          | refine awp_region_w (by first | (simp; done) | assumption | (simp; omega)) (fun Q hQ => ?_)
          | refine awp_region_e [10, 11] [.quiet [0, 1], .quiet [0, 1], .quiet [0, 1], .quiet [0, 1], .quiet [0, 1], .quiet [0, 1], .quiet [0, 1], .quiet [0, 1], .quiet [0, 1], .quiet [0, 1], .eff 0, .eff 1] [53, 54, 55, 56, 57, 58, 59, 60, 61, 62, 8] mixed (by kernel_rfl) (by kernel_rfl) (by kernel_rfl) rfl rfl ?_
          | refine awp_region_q mixed (by kernel_rfl) (by kernel_rfl) rfl (by first | (simp; done) | assumption | (simp; omega)) (fun Q hQ => ?_)
          | refine Both.mk ?_ ?_
          | (refine hQ _ _ ?_; clear hQ Q)
          | (refine hQ _ ?_; clear hQ Q)
          | refine awp_cond_true rfl ?_
          | refine awp_cond_false rfl ?_
          | refine awp_skip ?_
          | (refine awp_exit ?_; simp only [go_sem, Nat.reduceEqDiff])
          | (refine awp_ret ?_; try simp only [inBlock_ret, andThen_ret])
          | ((first | refine hK _ ?_ | (clear hK K; refine hK _ ?_) | (clear hK K; clear hK K; refine hK _ ?_) | (clear hK K; clear hK K; clear hK K; refine hK _ ?_) | (clear hK K; clear hK K; clear hK K; clear hK K; refine hK _ ?_) | (clear hK K; clear hK K; clear hK K; clear hK K; clear hK K; refine hK _ ?_) | (clear hK K; clear hK K; clear hK K; clear hK K; clear hK K; clear hK K; refine hK _ ?_)); clear hK; clear K)
          | refine And.intro (by first | assumption | omega | trivial | rfl | (simp; done)) ?_)
        refine awp_loop_at (fun T n S => ∃ (i : Nat) , (i ≤ (row).length ∧ allP nullP (t.cols.drop i) (row.drop i) = allP nullP t.cols row) ∧ n = (row).length - i ∧ S = ⟨setT T [(5, .int .i64 (i : Int)), (4, .junk), (17, .junk), (18, .junk), (19, .junk), (20, .junk), (21, .junk), (22, .junk), (23, .junk), (24, .junk), (25, .junk), (26, .junk), (27, .junk), (28, .junk), (29, .junk), (30, .junk), (31, .junk), (32, .junk), (33, .junk), (34, .junk), (35, .junk), (36, .junk), (37, .junk)], H ++ [.var t.cells]⟩) ?_ ?_
        · refine ⟨_, _, weak_junk ?_, 0, ⟨Nat.zero_le _, by first | rfl | assumption | (simp; done) | trivial⟩, rfl, rfl⟩
          simp only [go_sem]; simp [LeT]
        · rintro n S ⟨i, ⟨hi, hinv⟩, rfl, rfl⟩
          by_cases hlt : i < (row).length
          · have hw := wrap_succ hlt (by omega)
            have hd : decide (i < (row).length) = true := by simpa using hlt
            obtain ⟨a, ha⟩ : ∃ a, (row)[i]? = some a := ⟨_, List.getElem?_eq_getElem hlt⟩
            have hl := look_map (g := ValR.av) ha
            have hmem := List.mem_of_getElem? ha
            try rw [drop_cons ha] at hinv
            obtain ⟨b, hb⟩ : ∃ b, t.cols[i]? = some b := ⟨_, List.getElem?_eq_getElem (by omega)⟩
            have hl2 := look_map (g := ColR.av) hb
            have hlt2 : i < t.cols.length := by omega
            rw [drop_cons hb] at hinv
            simp only [allP, nullP] at hinv
            repeat' (first
              | ((with_reducible first | refine isWL ?_ | refine isGW ?_ | refine isWQ ?_ | refine isGQ ?_ | refine isWE ?_ | refine isNE ?_); (first | simp only [and_assoc, true_and, go_sem, Nat.reduceAdd, Nat.reduceMul, Nat.reduceLeDiff, Nat.reduceLT, Nat.reduceEqDiff, Int.reduceToNat, Int.reduceLE, Int.reduceLT, List.forall_mem_cons, List.not_mem_nil, false_implies, implies_true, hd, hw, hl, hl2, hlt, hlt2, List.length_map, hc] | simp only [and_assoc, true_and, go_sem, Nat.reduceAdd, Nat.reduceMul, Nat.reduceLeDiff, Nat.reduceLT, Nat.reduceEqDiff, Int.reduceToNat, Int.reduceLE, Int.reduceLT, List.forall_mem_cons, List.not_mem_nil, false_implies, implies_true, hd, hw, hl, hl2, hlt, hlt2, List.length_map]))
              | refine awp_seq_k (fun K hK => ?_)
              | refine awp_block ?_
              | refine awp_region_w (by first | (simp; done) | assumption | (simp; omega)) (fun Q hQ => ?_)
              | refine awp_region_e [10, 11] [.quiet [0, 1], .quiet [0, 1], .quiet [0, 1], .quiet [0, 1], .quiet [0, 1], .quiet [0, 1], .quiet [0, 1], .quiet [0, 1], .quiet [0, 1], .quiet [0, 1], .eff 0, .eff 1] [53, 54, 55, 56, 57, 58, 59, 60, 61, 62, 8] mixed (by kernel_rfl) (by kernel_rfl) (by kernel_rfl) rfl rfl ?_
              | refine awp_region_q mixed (by kernel_rfl) (by kernel_rfl) rfl (by first | (simp; done) | assumption | (simp; omega)) (fun Q hQ => ?_)
              | refine Both.mk ?_ ?_
              | (refine hQ _ _ ?_; clear hQ Q)
              | (refine hQ _ ?_; clear hQ Q)
              | refine awp_cond_true rfl ?_
              | refine awp_cond_false rfl ?_
              | refine awp_skip ?_
              | (refine awp_exit ?_; simp only [go_sem, Nat.reduceEqDiff])
              | (refine awp_ret ?_; try simp only [inBlock_ret, andThen_ret])
              | ((first | refine hK _ ?_ | (clear hK K; refine hK _ ?_) | (clear hK K; clear hK K; refine hK _ ?_) | (clear hK K; clear hK K; clear hK K; refine hK _ ?_) | (clear hK K; clear hK K; clear hK K; clear hK K; refine hK _ ?_) | (clear hK K; clear hK K; clear hK K; clear hK K; clear hK K; refine hK _ ?_) | (clear hK K; clear hK K; clear hK K; clear hK K; clear hK K; clear hK K; refine hK _ ?_)); clear hK; clear K)
              | refine And.intro (by first | assumption | omega | trivial | rfl | (simp; done)) ?_
              | (refine awp_cond _ rfl (fun hc => ?_) (fun hc => ?_) <;> (try simp only [Bool.not_eq_true', Bool.not_eq_false'] at hc) <;> (try simp only [hc]))
              | (refine gdW_split (fun hc => ?_) (fun hc => ?_) <;> (try simp only [Bool.not_eq_true', Bool.not_eq_false'] at hc))
              | (refine gdQ_split (fun hc => ?_) (fun hc => ?_) <;> (try simp only [Bool.not_eq_true', Bool.not_eq_false'] at hc)))
            all_goals try
              (simp only [*, Bool.false_and, Bool.not_true, Bool.or_false, Bool.false_or] at hinv
               rw [← hinv]
               first | exact end_quiet0 rfl rfl | exact end_quiet hB rfl rfl (by simp))
            all_goals
              simp only [*, Bool.true_and, Bool.or_true, Bool.true_or, Bool.not_false] at hinv
              rw [andThen_normal]
              refine ⟨(row).length - (i + 1), by omega, _, ?_, i + 1, ⟨by omega, hinv⟩, rfl, rfl⟩
              first
                | (refine weak_junk ?_; (try simp only [go_sem]); simp [LeT]; done)
                | (simp only [go_sem, List.map_append, List.map_cons, List.map_nil, List.length_append, List.length_cons, List.length_nil, List.length_map, Nat.zero_add, List.append_assoc, List.cons_append, List.nil_append]; refine weak_junk ?_; simp [LeT]; done)
                | ((try simp only [go_sem, List.map_append, List.map_cons, List.map_nil, List.length_append, List.length_cons, List.length_nil, List.length_map, Nat.zero_add, List.append_assoc, List.cons_append, List.nil_append]); refine weak_cut _ (by first | rfl | (simp only [List.append_assoc, List.cons_append, List.nil_append]; rfl)) (by simp) (by simp [LeT]) (by simp) (by first | exact hB | (refine hB_app hB ?_; simp; done) | (refine hB_app hB ?_; simp [or_imp, forall_and]; done) | (refine hB_app hB ?_; simp; refine forall_set ?_ ?_ <;> simp; done)); done)
          · have hd : decide (i < (row).length) = false := by simpa using hlt
            have hnil : (row).drop i = [] := List.drop_eq_nil_of_le (by omega)
            try rw [hnil] at hinv
            repeat (first
              | ((with_reducible first | refine isWL ?_ | refine isGW ?_ | refine isWQ ?_ | refine isGQ ?_ | refine isWE ?_ | refine isNE ?_); simp only [and_assoc, true_and, go_sem, Nat.reduceAdd, Nat.reduceMul, Nat.reduceLeDiff, Nat.reduceLT, Nat.reduceEqDiff, Int.reduceToNat, Int.reduceLE, Int.reduceLT, List.forall_mem_cons, List.not_mem_nil, false_implies, implies_true, hd, List.length_map])
              | refine awp_seq_k (fun K hK => ?_)
              | refine awp_block ?_
              | refine awp_region_w (by first | (simp; done) | assumption | (simp; omega)) (fun Q hQ => ?_)
              | refine awp_region_e [10, 11] [.quiet [0, 1], .quiet [0, 1], .quiet [0, 1], .quiet [0, 1], .quiet [0, 1], .quiet [0, 1], .quiet [0, 1], .quiet [0, 1], .quiet [0, 1], .quiet [0, 1], .eff 0, .eff 1] [53, 54, 55, 56, 57, 58, 59, 60, 61, 62, 8] mixed (by kernel_rfl) (by kernel_rfl) (by kernel_rfl) rfl rfl ?_
              | refine awp_region_q mixed (by kernel_rfl) (by kernel_rfl) rfl (by first | (simp; done) | assumption | (simp; omega)) (fun Q hQ => ?_)
              | refine Both.mk ?_ ?_
              | (refine hQ _ _ ?_; clear hQ Q)
              | (refine hQ _ ?_; clear hQ Q)
              | refine awp_cond_true rfl ?_
              | refine awp_cond_false rfl ?_
              | refine awp_skip ?_
              | (refine awp_exit ?_; simp only [go_sem, Nat.reduceEqDiff])
              | (refine awp_ret ?_; try simp only [inBlock_ret, andThen_ret])
              | ((first | refine hK _ ?_ | (clear hK K; refine hK _ ?_) | (clear hK K; clear hK K; refine hK _ ?_) | (clear hK K; clear hK K; clear hK K; refine hK _ ?_) | (clear hK K; clear hK K; clear hK K; clear hK K; refine hK _ ?_) | (clear hK K; clear hK K; clear hK K; clear hK K; clear hK K; refine hK _ ?_) | (clear hK K; clear hK K; clear hK K; clear hK K; clear hK K; clear hK K; refine hK _ ?_)); clear hK; clear K)
              | refine And.intro (by first | assumption | omega | trivial | rfl | (simp; done)) ?_)
            have hnil2 : t.cols.drop i = [] := List.drop_eq_nil_of_le (by omega)
            rw [hnil2] at hinv
            first | refine hK _ (hinv.symm) ?_ | (clear hK K; refine hK _ (hinv.symm) ?_) | (clear hK K; clear hK K; refine hK _ (hinv.symm) ?_) | (clear hK K; clear hK K; clear hK K; refine hK _ (hinv.symm) ?_)
            first
              | (refine weak_junk ?_; (try simp only [go_sem]); simp [LeT]; done)
              | (simp only [go_sem, List.map_append, List.map_cons, List.map_nil, List.length_append, List.length_cons, List.length_nil, List.length_map, Nat.zero_add, List.append_assoc, List.cons_append, List.nil_append]; refine weak_junk ?_; simp [LeT]; done)
              | ((try simp only [go_sem, List.map_append, List.map_cons, List.map_nil, List.length_append, List.length_cons, List.length_nil, List.length_map, Nat.zero_add, List.append_assoc, List.cons_append, List.nil_append]); refine weak_cut _ (by first | rfl | (simp only [List.append_assoc, List.cons_append, List.nil_append]; rfl)) (by simp) (by simp [LeT]) (by simp) (by first | exact hB | (refine hB_app hB ?_; simp; done) | (refine hB_app hB ?_; simp [or_imp, forall_and]; done) | (refine hB_app hB ?_; simp; refine forall_set ?_ ?_ <;> simp; done)); done)
      rw [if_pos hfact]
      repeat (first
        | ((with_reducible first | refine isWL ?_ | refine isGW ?_ | refine isWQ ?_ | refine isGQ ?_ | refine isWE ?_ | refine isNE ?_); simp only [and_assoc, true_and, go_sem, Nat.reduceAdd, Nat.reduceMul, Nat.reduceLeDiff, Nat.reduceLT, Nat.reduceEqDiff, Int.reduceToNat, Int.reduceLE, Int.reduceLT, List.forall_mem_cons, List.not_mem_nil, false_implies, implies_true])
        | refine awp_seq_k (fun K hK => ?_)
        | refine awp_block ?_
        | refine awp_region_w (by first | (simp; done) | assumption | (simp; omega)) (fun Q hQ => ?_)
        | refine awp_region_e [10, 11] [.quiet [0, 1], .quiet [0, 1], .quiet [0, 1], .quiet [0, 1], .quiet [0, 1], .quiet [0, 1], .quiet [0, 1], .quiet [0, 1], .quiet [0, 1], .quiet [0, 1], .eff 0, .eff 1] [53, 54, 55, 56, 57, 58, 59, 60, 61, 62, 8] mixed (by kernel_rfl) (by kernel_rfl) (by kernel_rfl) rfl rfl ?_
        | refine awp_region_q mixed (by kernel_rfl) (by kernel_rfl) rfl (by first | (simp; done) | assumption | (simp; omega)) (fun Q hQ => ?_)
        | refine Both.mk ?_ ?_
        | (refine hQ _ _ ?_; clear hQ Q)
        | (refine hQ _ ?_; clear hQ Q)
        | refine awp_cond_true rfl ?_
        | refine awp_cond_false rfl ?_
        | refine awp_skip ?_
        | (refine awp_exit ?_; simp only [go_sem, Nat.reduceEqDiff])
        | (refine awp_ret ?_; try simp only [inBlock_ret, andThen_ret])
        | ((first | refine hK _ ?_ | (clear hK K; refine hK _ ?_) | (clear hK K; clear hK K; refine hK _ ?_) | (clear hK K; clear hK K; clear hK K; refine hK _ ?_) | (clear hK K; clear hK K; clear hK K; clear hK K; refine hK _ ?_) | (clear hK K; clear hK K; clear hK K; clear hK K; clear hK K; refine hK _ ?_) | (clear hK K; clear hK K; clear hK K; clear hK K; clear hK K; clear hK K; refine hK _ ?_)); clear hK; clear K)
        | refine And.intro (by first | assumption | omega | trivial | rfl | (simp; done)) ?_)
      refine awp_loop_at (fun T n S => ∃ (i : Nat) , (i ≤ (t.rules).length ∧ fitL t.cols row (t.rules.drop i) = fitL t.cols row t.rules) ∧ n = (t.rules).length - i ∧ S = ⟨setT T [(6, .int .i64 (i : Int)), (4, .junk), (7, .junk), (8, .junk), (38, .junk), (39, .junk), (40, .junk), (41, .junk), (42, .junk), (43, .junk), (44, .junk), (45, .junk), (46, .junk), (47, .junk), (48, .junk), (49, .junk), (50, .junk), (51, .junk), (52, .junk), (53, .junk), (54, .junk), (55, .junk), (56, .junk), (57, .junk), (58, .junk), (59, .junk), (60, .junk), (61, .junk), (62, .junk), (63, .junk), (64, .junk), (65, .junk), (66, .junk), (67, .junk), (68, .junk), (69, .junk), (70, .junk), (71, .junk), (72, .junk), (73, .junk), (74, .junk), (75, .junk), (76, .junk), (77, .junk), (78, .junk), (79, .junk)], H ++ [.var t.cells]⟩) ?_ ?_
      · refine ⟨_, _, weak_junk ?_, 0, ⟨Nat.zero_le _, by first | rfl | assumption | (simp; done) | trivial⟩, rfl, rfl⟩
        simp only [go_sem]; simp [LeT]
      · rintro n S ⟨i, ⟨hi, hinv⟩, rfl, rfl⟩
        by_cases hlt : i < (t.rules).length
        · have hw := wrap_succ hlt (by omega)
          have hd : decide (i < (t.rules).length) = true := by simpa using hlt
          obtain ⟨a, ha⟩ : ∃ a, (t.rules)[i]? = some a := ⟨_, List.getElem?_eq_getElem hlt⟩
          have hl := look_map (g := RuleR.av) ha
          have hmem := List.mem_of_getElem? ha
          try rw [drop_cons ha] at hinv
          simp only [fitL] at hinv
          cases hk : (a.kind == 3) with
          | false =>
            simp only [hk, Bool.false_eq_true, if_false] at hinv
            repeat' (first
              | ((with_reducible first | refine isWL ?_ | refine isGW ?_ | refine isWQ ?_ | refine isGQ ?_ | refine isWE ?_ | refine isNE ?_); (first | simp only [and_assoc, true_and, go_sem, Nat.reduceAdd, Nat.reduceMul, Nat.reduceLeDiff, Nat.reduceLT, Nat.reduceEqDiff, Int.reduceToNat, Int.reduceLE, Int.reduceLT, List.forall_mem_cons, List.not_mem_nil, false_implies, implies_true, hd, hw, hl, hlt, hk, List.length_map, Bool.not_false, hc] | simp only [and_assoc, true_and, go_sem, Nat.reduceAdd, Nat.reduceMul, Nat.reduceLeDiff, Nat.reduceLT, Nat.reduceEqDiff, Int.reduceToNat, Int.reduceLE, Int.reduceLT, List.forall_mem_cons, List.not_mem_nil, false_implies, implies_true, hd, hw, hl, hlt, hk, List.length_map, Bool.not_false]))
              | refine awp_seq_k (fun K hK => ?_)
              | refine awp_block ?_
              | refine awp_region_w (by first | (simp; done) | assumption | (simp; omega)) (fun Q hQ => ?_)
              | refine awp_region_e [10, 11] [.quiet [0, 1], .quiet [0, 1], .quiet [0, 1], .quiet [0, 1], .quiet [0, 1], .quiet [0, 1], .quiet [0, 1], .quiet [0, 1], .quiet [0, 1], .quiet [0, 1], .eff 0, .eff 1] [53, 54, 55, 56, 57, 58, 59, 60, 61, 62, 8] mixed (by kernel_rfl) (by kernel_rfl) (by kernel_rfl) rfl rfl ?_
              | refine awp_region_q mixed (by kernel_rfl) (by kernel_rfl) rfl (by first | (simp; done) | assumption | (simp; omega)) (fun Q hQ => ?_)
              | refine Both.mk ?_ ?_
              | (refine hQ _ _ ?_; clear hQ Q)
              | (refine hQ _ ?_; clear hQ Q)
              | refine awp_cond_true rfl ?_
              | refine awp_cond_false rfl ?_
              | refine awp_skip ?_
              | (refine awp_exit ?_; simp only [go_sem, Nat.reduceEqDiff])
              | (refine awp_ret ?_; try simp only [inBlock_ret, andThen_ret])
              | ((first | refine hK _ ?_ | (clear hK K; refine hK _ ?_) | (clear hK K; clear hK K; refine hK _ ?_) | (clear hK K; clear hK K; clear hK K; refine hK _ ?_) | (clear hK K; clear hK K; clear hK K; clear hK K; refine hK _ ?_) | (clear hK K; clear hK K; clear hK K; clear hK K; clear hK K; refine hK _ ?_) | (clear hK K; clear hK K; clear hK K; clear hK K; clear hK K; clear hK K; refine hK _ ?_)); clear hK; clear K)
              | refine And.intro (by first | assumption | omega | trivial | rfl | (simp; done)) ?_
              | (refine awp_cond _ rfl (fun hc => ?_) (fun hc => ?_) <;> (try simp only [Bool.not_eq_true', Bool.not_eq_false'] at hc) <;> (try simp only [hc]))
              | (refine gdW_split (fun hc => ?_) (fun hc => ?_) <;> (try simp only [Bool.not_eq_true', Bool.not_eq_false'] at hc))
              | (refine gdQ_split (fun hc => ?_) (fun hc => ?_) <;> (try simp only [Bool.not_eq_true', Bool.not_eq_false'] at hc)))
            rw [andThen_normal]
            refine ⟨(t.rules).length - (i + 1), by omega, _, ?_, i + 1, ⟨by omega, hinv⟩, rfl, rfl⟩
            first
              | (refine weak_junk ?_; (try simp only [go_sem]); simp [LeT]; done)
              | (simp only [go_sem, List.map_append, List.map_cons, List.map_nil, List.length_append, List.length_cons, List.length_nil, List.length_map, Nat.zero_add, List.append_assoc, List.cons_append, List.nil_append]; refine weak_junk ?_; simp [LeT]; done)
              | ((try simp only [go_sem, List.map_append, List.map_cons, List.map_nil, List.length_append, List.length_cons, List.length_nil, List.length_map, Nat.zero_add, List.append_assoc, List.cons_append, List.nil_append]); refine weak_cut _ (by first | rfl | (simp only [List.append_assoc, List.cons_append, List.nil_append]; rfl)) (by simp) (by simp [LeT]) (by simp) (by first | exact hB | (refine hB_app hB ?_; simp; done) | (refine hB_app hB ?_; simp [or_imp, forall_and]; done) | (refine hB_app hB ?_; simp; refine forall_set ?_ ?_ <;> simp; done)); done)
          | true =>
            have hk3 : a.kind ≠ 4 := by simp only [beq_iff_eq] at hk; omega
            have hfit := alone_rule ha0 hmem
            rw [aloneRule_other hk3] at hfit
            obtain ⟨hne, hcs⟩ := fits_cols hfit
            obtain ⟨s, ss, hs⟩ : ∃ s ss, a.cols = s :: ss := by
              cases hq : a.cols with
              | nil => exact absurd hq hne
              | cons s ss => exact ⟨s, ss, rfl⟩
            have h0 := hcs s (by rw [hs]; simp)
            obtain ⟨hlt2, hlk2⟩ := valOf_look hlen h0
            simp only [hk, if_true, hs, List.headD_cons] at hinv
            repeat' (first
              | ((with_reducible first | refine isWL ?_ | refine isGW ?_ | refine isWQ ?_ | refine isGQ ?_ | refine isWE ?_ | refine isNE ?_); (first | simp only [and_assoc, true_and, go_sem, Nat.reduceAdd, Nat.reduceMul, Nat.reduceLeDiff, Nat.reduceLT, Nat.reduceEqDiff, Int.reduceToNat, Int.reduceLE, Int.reduceLT, List.forall_mem_cons, List.not_mem_nil, false_implies, implies_true, hd, hw, hl, hlt, hk, hs, hlk2, h0, hlt2, List.length_map, List.map_cons, Bool.not_true, hc] | simp only [and_assoc, true_and, go_sem, Nat.reduceAdd, Nat.reduceMul, Nat.reduceLeDiff, Nat.reduceLT, Nat.reduceEqDiff, Int.reduceToNat, Int.reduceLE, Int.reduceLT, List.forall_mem_cons, List.not_mem_nil, false_implies, implies_true, hd, hw, hl, hlt, hk, hs, hlk2, h0, hlt2, List.length_map, List.map_cons, Bool.not_true]))
              | refine awp_seq_k (fun K hK => ?_)
              | refine awp_block ?_
              | refine awp_region_w (by first | (simp; done) | assumption | (simp; omega)) (fun Q hQ => ?_)
              | refine awp_region_e [10, 11] [.quiet [0, 1], .quiet [0, 1], .quiet [0, 1], .quiet [0, 1], .quiet [0, 1], .quiet [0, 1], .quiet [0, 1], .quiet [0, 1], .quiet [0, 1], .quiet [0, 1], .eff 0, .eff 1] [53, 54, 55, 56, 57, 58, 59, 60, 61, 62, 8] mixed (by kernel_rfl) (by kernel_rfl) (by kernel_rfl) rfl rfl ?_
              | refine awp_region_q mixed (by kernel_rfl) (by kernel_rfl) rfl (by first | (simp; done) | assumption | (simp; omega)) (fun Q hQ => ?_)
              | refine callW_quiet (refColumn_q t.cols s (by omega) _) ?_
              | refine callQ_quiet (refColumn_q t.cols s (by omega) _) ?_
              | refine callE_quiet (refColumn_q t.cols s (by omega) _) ?_
              | refine And.intro (callR_quiet (refColumn_q t.cols s (by omega) _) rfl) ?_
              | refine Both.mk ?_ ?_
              | (refine hQ _ _ ?_; clear hQ Q)
              | (refine hQ _ ?_; clear hQ Q)
              | refine awp_cond_true rfl ?_
              | refine awp_cond_false rfl ?_
              | refine awp_skip ?_
              | (refine awp_exit ?_; simp only [go_sem, Nat.reduceEqDiff])
              | (refine awp_ret ?_; try simp only [inBlock_ret, andThen_ret])
              | ((first | refine hK _ ?_ | (clear hK K; refine hK _ ?_) | (clear hK K; clear hK K; refine hK _ ?_) | (clear hK K; clear hK K; clear hK K; refine hK _ ?_) | (clear hK K; clear hK K; clear hK K; clear hK K; refine hK _ ?_) | (clear hK K; clear hK K; clear hK K; clear hK K; clear hK K; refine hK _ ?_) | (clear hK K; clear hK K; clear hK K; clear hK K; clear hK K; clear hK K; refine hK _ ?_)); clear hK; clear K)
              | refine And.intro (by first | assumption | omega | trivial | rfl | (simp; done)) ?_
              | (refine awp_cond _ rfl (fun hc => ?_) (fun hc => ?_) <;> (try simp only [Bool.not_eq_true', Bool.not_eq_false'] at hc) <;> (try simp only [hc]))
              | (refine gdW_split (fun hc => ?_) (fun hc => ?_) <;> (try simp only [Bool.not_eq_true', Bool.not_eq_false'] at hc))
              | (refine gdQ_split (fun hc => ?_) (fun hc => ?_) <;> (try simp only [Bool.not_eq_true', Bool.not_eq_false'] at hc)))
            all_goals try
              (simp only [keepB, *, Bool.true_and, Bool.and_true, Bool.false_and, Bool.true_or, Bool.false_or, Bool.or_true, Bool.or_false, Bool.not_true, Bool.not_false, Bool.false_eq_true, if_false] at hinv
               rw [← hinv]
               exact end_quiet hB rfl rfl (by simp))
            all_goals
              simp only [keepB, *, Bool.true_and, Bool.and_true, Bool.false_and, Bool.true_or, Bool.false_or, Bool.or_true, Bool.or_false, Bool.not_true, Bool.not_false, if_true] at hinv
              rw [andThen_normal]
              refine ⟨(t.rules).length - (i + 1), by omega, _, ?_, i + 1, ⟨by omega, hinv⟩, rfl, rfl⟩
              first
                | (refine weak_junk ?_; (try simp only [go_sem]); simp [LeT]; done)
                | (simp only [go_sem, List.map_append, List.map_cons, List.map_nil, List.length_append, List.length_cons, List.length_nil, List.length_map, Nat.zero_add, List.append_assoc, List.cons_append, List.nil_append]; refine weak_junk ?_; simp [LeT]; done)
                | ((try simp only [go_sem, List.map_append, List.map_cons, List.map_nil, List.length_append, List.length_cons, List.length_nil, List.length_map, Nat.zero_add, List.append_assoc, List.cons_append, List.nil_append]); refine weak_cut _ (by first | rfl | (simp only [List.append_assoc, List.cons_append, List.nil_append]; rfl)) (by simp) (by simp [LeT]) (by simp) (by first | exact hB | (refine hB_app hB ?_; simp; done) | (refine hB_app hB ?_; simp [or_imp, forall_and]; done) | (refine hB_app hB ?_; simp; refine forall_set ?_ ?_ <;> simp; done)); done)
        · have hd : decide (i < (t.rules).length) = false := by simpa using hlt
          have hnil : (t.rules).drop i = [] := List.drop_eq_nil_of_le (by omega)
          try rw [hnil] at hinv
          repeat (first
            | ((with_reducible first | refine isWL ?_ | refine isGW ?_ | refine isWQ ?_ | refine isGQ ?_ | refine isWE ?_ | refine isNE ?_); simp only [and_assoc, true_and, go_sem, Nat.reduceAdd, Nat.reduceMul, Nat.reduceLeDiff, Nat.reduceLT, Nat.reduceEqDiff, Int.reduceToNat, Int.reduceLE, Int.reduceLT, List.forall_mem_cons, List.not_mem_nil, false_implies, implies_true, hd, List.length_map])
            | refine awp_seq_k (fun K hK => ?_)
            | refine awp_block ?_
            | refine awp_region_w (by first | (simp; done) | assumption | (simp; omega)) (fun Q hQ => ?_)
            | refine awp_region_e [10, 11] [.quiet [0, 1], .quiet [0, 1], .quiet [0, 1], .quiet [0, 1], .quiet [0, 1], .quiet [0, 1], .quiet [0, 1], .quiet [0, 1], .quiet [0, 1], .quiet [0, 1], .eff 0, .eff 1] [53, 54, 55, 56, 57, 58, 59, 60, 61, 62, 8] mixed (by kernel_rfl) (by kernel_rfl) (by kernel_rfl) rfl rfl ?_
            | refine awp_region_q mixed (by kernel_rfl) (by kernel_rfl) rfl (by first | (simp; done) | assumption | (simp; omega)) (fun Q hQ => ?_)
            | refine Both.mk ?_ ?_
            | (refine hQ _ _ ?_; clear hQ Q)
            | (refine hQ _ ?_; clear hQ Q)
            | refine awp_cond_true rfl ?_
            | refine awp_cond_false rfl ?_
            | refine awp_skip ?_
            | (refine awp_exit ?_; simp only [go_sem, Nat.reduceEqDiff])
            | (refine awp_ret ?_; try simp only [inBlock_ret, andThen_ret])
            | ((first | refine hK _ ?_ | (clear hK K; refine hK _ ?_) | (clear hK K; clear hK K; refine hK _ ?_) | (clear hK K; clear hK K; clear hK K; refine hK _ ?_) | (clear hK K; clear hK K; clear hK K; clear hK K; refine hK _ ?_) | (clear hK K; clear hK K; clear hK K; clear hK K; clear hK K; refine hK _ ?_) | (clear hK K; clear hK K; clear hK K; clear hK K; clear hK K; clear hK K; refine hK _ ?_)); clear hK; clear K)
            | refine And.intro (by first | assumption | omega | trivial | rfl | (simp; done)) ?_)
          rw [← hinv]
          first | exact end_quiet0 rfl rfl | exact end_quiet hB rfl rfl (by simp)

end Go.Proofs.Ytamoclnnakdiaaa.Abs
