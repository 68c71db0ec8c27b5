/-
  The reference's rules: they fit as the program's do.
  Conditions: none.
-/
import Derived.Test.YtamoclnnakdiaaaD1
namespace Go.Proofs.Ytamoclnnakdiaaa.Abs
open Go Go.RowKit
set_option linter.unusedVariables false
set_option maxRecDepth 100000
set_option maxHeartbeats 4000000
set_option linter.unusedSimpArgs false

theorem idxOf_any {α : Type} (p : α → Bool) : ∀ l : List α, decide (0 ≤ idxOf p l) = l.any p
  | [] => by simp [idxOf]
  | x :: l => by
    have ih := idxOf_any p l
    rw [idxOf_cons, List.any_cons, ← ih]
    cases hx : p x with
    | true => simp
    | false =>
      simp only [Bool.false_eq_true, if_false, Bool.false_or]
      by_cases h : 0 ≤ idxOf p l
      · rw [if_pos h]
        have : 0 ≤ idxOf p l + 1 := by omega
        simp [h, this]
      · rw [if_neg h]
        simp [h]

theorem idxOf_get {α : Type} {p : α → Bool} {l : List α} (h : 0 ≤ idxOf p l) : ∃ a, l[(idxOf p l).toNat]? = some a ∧ p a = true := by
  unfold idxOf at h ⊢
  by_cases hl : l.findIdx p < l.length
  · rw [if_pos hl] at h ⊢
    refine ⟨l[l.findIdx p], ?_, List.findIdx_getElem⟩
    rw [Int.toNat_natCast]
    exact List.getElem?_eq_getElem hl
  · rw [if_neg hl] at h
    omega

theorem okFit_take {l : List ColR} {cs : List (List UInt8)} {i : Nat} {s : List UInt8} (h : cs[i]? = some s) : okFit l cs i = (!decide (idxOf (fun c => c.name == s) l < 0) && !((cs.take i).any (fun t => t == s))) := by
  rw [okFit_at h, idxOf_take h (by simp)]
  congr 2
  rw [idxOf_any]
  congr 1
  funext t
  exact Bool.beq_comm

theorem nodup_lt : ∀ (n : Nat) (xs : List Nat), xs.Nodup → (∀ x, x ∈ xs → x < n) → xs.length ≤ n
  | 0, [], _, _ => Nat.le_refl _
  | 0, x :: xs, _, h => absurd (h x (by simp)) (by omega)
  | n + 1, xs, hn, h => by
    by_cases hm : n ∈ xs
    · have h1 := nodup_lt n (xs.erase n) (hn.erase n) (fun x hx => by
        obtain ⟨h2, h3⟩ := hn.mem_erase_iff.1 hx
        have := h x h3
        omega)
      rw [List.length_erase_of_mem hm] at h1
      omega
    · have h1 := nodup_lt n xs hn (fun x hx => by
        have := h x hx
        have : x ≠ n := fun h0 => hm (h0 ▸ hx)
        omega)
      omega

/-- Different columns of a rule are no more than there are columns. -/
theorem okFit_len {l : List ColR} {cs : List (List UInt8)} (h : (List.range cs.length).all (okFit l cs) = true) : cs.length ≤ l.length := by
  have hk : ∀ (j : Nat) (s : List UInt8), cs[j]? = some s → 0 ≤ idxOf (fun c => c.name == s) l ∧ idxOf (fun t => s == t) cs = (j : Int) := by
    intro j s hj
    have := (List.all_eq_true.1 h) j (List.mem_range.2 (lt_of_get hj))
    rw [okFit_at hj] at this
    simp only [Bool.and_eq_true, Bool.not_eq_true', decide_eq_false_iff_not, beq_iff_eq] at this
    exact ⟨by omega, this.2⟩
  have h1 := nodup_lt l.length (cs.map fun s => (idxOf (fun c => c.name == s) l).toNat) ?_ ?_
  · simpa using h1
  · rw [List.nodup_iff_pairwise_ne, List.pairwise_map, List.pairwise_iff_getElem]
    intro i j hi hj hij heq
    have gi : cs[i]? = some cs[i] := List.getElem?_eq_getElem hi
    have gj : cs[j]? = some cs[j] := List.getElem?_eq_getElem hj
    obtain ⟨a1, a2⟩ := hk i _ gi
    obtain ⟨b1, b2⟩ := hk j _ gj
    obtain ⟨c, c1, c2⟩ := idxOf_get a1
    obtain ⟨d, d1, d2⟩ := idxOf_get b1
    rw [heq, d1] at c1
    cases c1
    simp only [beq_iff_eq] at c2 d2
    rw [← c2, d2] at a2
    omega
  · intro x hx
    obtain ⟨s, hs, rfl⟩ := List.mem_map.1 hx
    have := idxOf_lt (p := fun c : ColR => c.name == s) (l := l)
    obtain ⟨j, hj⟩ := List.getElem?_of_mem hs
    have := (hk j s hj).1
    omega

theorem bare3_eq (r : RuleR) : bare3 r = ((r.schema == []) && ((r.table == []) && (r.key == []))) := by
  unfold bare3
  cases r.schema <;> cases r.table <;> cases r.key <;> rfl

theorem fits_eq (l : List ColR) (r : RuleR) : fitsB l r = ((List.range r.cols.length).all (okFit l r.cols) && (nameB r.name && !((r.cols.length : Int) == 0) && fitTail l r)) := by
  unfold fitsB
  cases hall : (List.range r.cols.length).all (okFit l r.cols) with
  | false => simp
  | true =>
    have h1 := okFit_len hall
    have h2 : decide (l.length < r.cols.length) = false := by simp; exact h1
    have h3 : decide ((r.cols.length : Int) < 1) = ((r.cols.length : Int) == 0) := by
      rw [Bool.eq_iff_iff]
      simp only [decide_eq_true_eq, beq_iff_eq]
      omega
    rw [h2, h3]
    simp

theorem refFits_q (l : List ColR) (r : RuleR) (hr : r.ok) (hn : l.length ≤ 140737488351232) (hm : r.cols.length ≤ 140737488351232) (H : List AObj) : QuietF Go.Proofs.Try.prog 40 [.fz (l.map ColR.av), RuleR.av r] H (.bool (fitsB l r)) := by
  refine ACallF.of hb_40 (acalls_body Try.func40 rfl ?_)
  intro hB hA
  rw [args0_40]
  rw [fits_eq]
  obtain ⟨g1, g2, g3, g4, g5⟩ := hr
  refine awp_seq_k (fun K hK => ?_)
  repeat (first
    | ((with_reducible first | refine isWL ?_ | refine isGW ?_ | refine isWQ ?_ | refine isGQ ?_); simp only [go_sem, Nat.reduceAdd, Nat.reduceMul, Nat.reduceLeDiff, Nat.reduceLT, Nat.reduceEqDiff, Int.reduceToNat, Int.reduceLE, Int.reduceLT, List.forall_mem_cons, List.not_mem_nil, false_implies, implies_true])
    | refine awp_region_w (by first | (simp; done) | assumption | (simp; omega)) (fun Q hQ => ?_)
    | refine awp_region_q mixed (by kernel_rfl) (by kernel_rfl) rfl (by first | (simp; done) | assumption | (simp; omega)) (fun Q hQ => ?_)
    | refine Both.mk ?_ ?_
    | (refine hQ _ _ ?_; clear hQ Q)
    | (refine hQ _ ?_; clear hQ Q)
    | refine awp_cond_true rfl ?_
    | refine awp_cond_false rfl ?_
    | refine awp_skip ?_
    | (refine awp_exit ?_; simp only [go_sem, Nat.reduceEqDiff])
    | (refine awp_ret ?_; try simp only [inBlock_ret, andThen_ret])
    | ((first | refine hK _ ?_ | (clear hK K; refine hK _ ?_) | (clear hK K; clear hK K; refine hK _ ?_) | (clear hK K; clear hK K; clear hK K; refine hK _ ?_) | (clear hK K; clear hK K; clear hK K; clear hK K; refine hK _ ?_) | (clear hK K; clear hK K; clear hK K; clear hK K; clear hK K; refine hK _ ?_) | (clear hK K; clear hK K; clear hK K; clear hK K; clear hK K; clear hK K; refine hK _ ?_)); clear hK; clear K)
    | refine And.intro (by first | assumption | omega | trivial | rfl | (simp; done)) ?_)
  refine awp_seq_fact ((List.range r.cols.length).all (okFit l r.cols) = true) [(4, .junk), (5, .junk), (7, .junk), (8, .junk), (9, .junk), (10, .junk), (11, .junk), (12, .junk), (13, .junk), (14, .junk), (15, .junk), (16, .junk), (17, .junk), (18, .junk), (19, .junk), (20, .junk), (21, .junk), (22, .junk), (23, .junk), (24, .junk), (25, .junk), (26, .junk), (27, .junk), (28, .junk), (29, .junk), (30, .junk), (31, .junk), (32, .junk), (33, .junk)] (H ++ [.var r.cells]) (fun K hK => ?_) (fun hfact => ?_)
  · repeat (first
      | ((with_reducible first | refine isWL ?_ | refine isGW ?_ | refine isWQ ?_ | refine isGQ ?_); simp only [go_sem, Nat.reduceAdd, Nat.reduceMul, Nat.reduceLeDiff, Nat.reduceLT, Nat.reduceEqDiff, Int.reduceToNat, Int.reduceLE, Int.reduceLT, List.forall_mem_cons, List.not_mem_nil, false_implies, implies_true])
      | refine awp_seq_k (fun K hK => ?_)
      | refine awp_block ?_
      | refine awp_region_w (by first | (simp; done) | assumption | (simp; omega)) (fun Q hQ => ?_)
      | refine awp_region_q mixed (by kernel_rfl) (by kernel_rfl) rfl (by first | (simp; done) | assumption | (simp; omega)) (fun Q hQ => ?_)
      | refine Both.mk ?_ ?_
      | (refine hQ _ _ ?_; clear hQ Q)
      | (refine hQ _ ?_; clear hQ Q)
      | refine awp_cond_true rfl ?_
      | refine awp_cond_false rfl ?_
      | refine awp_skip ?_
      | (refine awp_exit ?_; simp only [go_sem, Nat.reduceEqDiff])
      | (refine awp_ret ?_; try simp only [inBlock_ret, andThen_ret])
      | ((first | refine hK _ ?_ | (clear hK K; refine hK _ ?_) | (clear hK K; clear hK K; refine hK _ ?_) | (clear hK K; clear hK K; clear hK K; refine hK _ ?_) | (clear hK K; clear hK K; clear hK K; clear hK K; refine hK _ ?_) | (clear hK K; clear hK K; clear hK K; clear hK K; clear hK K; refine hK _ ?_) | (clear hK K; clear hK K; clear hK K; clear hK K; clear hK K; clear hK K; refine hK _ ?_)); clear hK; clear K)
      | refine And.intro (by first | assumption | omega | trivial | rfl | (simp; done)) ?_)
    refine awp_loop_at (fun T n S => ∃ (i : Nat) , (i ≤ (r.cols).length ∧ ∀ j, j < i → okFit l r.cols j = true) ∧ n = (r.cols).length - i ∧ S = ⟨setT T [(5, .int .i64 (i : Int)), (4, .junk), (7, .junk), (8, .junk), (9, .junk), (10, .junk), (11, .junk), (12, .junk), (13, .junk), (14, .junk), (15, .junk), (16, .junk), (17, .junk), (18, .junk), (19, .junk), (20, .junk), (21, .junk), (22, .junk), (23, .junk), (24, .junk), (25, .junk), (26, .junk), (27, .junk), (28, .junk), (29, .junk), (30, .junk), (31, .junk), (32, .junk), (33, .junk)], H ++ [.var r.cells]⟩) ?_ ?_
    · refine ⟨_, _, weak_junk ?_, 0, ⟨Nat.zero_le _, by omega⟩, rfl, rfl⟩
      simp only [go_sem]; simp [LeT]
    · rintro n S ⟨i, ⟨hi, hinv⟩, rfl, rfl⟩
      by_cases hlt : i < (r.cols).length
      · have hw := wrap_succ hlt (by omega)
        have hd : decide (i < (r.cols).length) = true := by simpa using hlt
        obtain ⟨a, ha⟩ : ∃ a, (r.cols)[i]? = some a := ⟨_, List.getElem?_eq_getElem hlt⟩
        have hl := look_map (g := AV.str) ha
        have hmem := List.mem_of_getElem? ha
        try rw [drop_cons ha] at hinv
        have hok := okFit_take (l := l) ha
        have hcut : (r.cols.map AV.str).take i = (r.cols.take i).map AV.str := List.map_take.symm
        have hle : (r.cols.take i).length ≤ 140737488351232 := by rw [List.length_take]; omega
        have hsz : ∀ y, y ∈ r.cols.map AV.str → y.cells.length = 1 := by
          intro y hy
          obtain ⟨c, _, rfl⟩ := List.mem_map.1 hy
          rfl
        have hil : i ≤ r.cols.length := by omega
        repeat' (first
          | ((with_reducible first | refine isWL ?_ | refine isGW ?_ | refine isWQ ?_ | refine isGQ ?_); (first | simp only [go_sem, Nat.reduceAdd, Nat.reduceMul, Nat.reduceLeDiff, Nat.reduceLT, Nat.reduceEqDiff, Int.reduceToNat, Int.reduceLE, Int.reduceLT, List.forall_mem_cons, List.not_mem_nil, false_implies, implies_true, hd, hw, hl, hlt, hil, hcut, List.length_map, List.drop_zero, Nat.sub_zero, Nat.zero_le, hc] | simp only [go_sem, Nat.reduceAdd, Nat.reduceMul, Nat.reduceLeDiff, Nat.reduceLT, Nat.reduceEqDiff, Int.reduceToNat, Int.reduceLE, Int.reduceLT, List.forall_mem_cons, List.not_mem_nil, false_implies, implies_true, hd, hw, hl, hlt, hil, hcut, List.length_map, List.drop_zero, Nat.sub_zero, Nat.zero_le]))
          | refine awp_seq_k (fun K hK => ?_)
          | refine awp_block ?_
          | refine awp_region_w (by first | (simp; done) | assumption | (simp; omega)) (fun Q hQ => ?_)
          | refine awp_region_q mixed (by kernel_rfl) (by kernel_rfl) rfl (by first | (simp; done) | assumption | (simp; omega)) (fun Q hQ => ?_)
          | refine callW_quiet (refColumn_q l a hn _) ?_
          | refine callQ_quiet (refColumn_q l a hn _) ?_
          | refine callW_quiet (refIn_q (r.cols.take i) a hle _) ?_
          | refine callQ_quiet (refIn_q (r.cols.take i) a hle _) ?_
          | refine Both.mk ?_ ?_
          | (refine hQ _ _ ?_; clear hQ Q)
          | (refine hQ _ ?_; clear hQ Q)
          | refine awp_cond_true rfl ?_
          | refine awp_cond_false rfl ?_
          | refine awp_skip ?_
          | (refine awp_exit ?_; simp only [go_sem, Nat.reduceEqDiff])
          | (refine awp_ret ?_; try simp only [inBlock_ret, andThen_ret])
          | ((first | refine hK _ ?_ | (clear hK K; refine hK _ ?_) | (clear hK K; clear hK K; refine hK _ ?_) | (clear hK K; clear hK K; clear hK K; refine hK _ ?_) | (clear hK K; clear hK K; clear hK K; clear hK K; refine hK _ ?_) | (clear hK K; clear hK K; clear hK K; clear hK K; clear hK K; refine hK _ ?_) | (clear hK K; clear hK K; clear hK K; clear hK K; clear hK K; clear hK K; refine hK _ ?_)); clear hK; clear K)
          | refine And.intro (by first | assumption | omega | trivial | rfl | (simp; done) | (exact ⟨Nat.zero_le _, hil, hsz⟩)) ?_
          | (refine awp_cond _ rfl (fun hc => ?_) (fun hc => ?_) <;> (try simp only [Bool.not_eq_true', Bool.not_eq_false'] at hc) <;> (try simp only [hc]))
          | (refine gdW_split (fun hc => ?_) (fun hc => ?_) <;> (try simp only [Bool.not_eq_true', Bool.not_eq_false'] at hc))
          | (refine gdQ_split (fun hc => ?_) (fun hc => ?_) <;> (try simp only [Bool.not_eq_true', Bool.not_eq_false'] at hc)))
        all_goals try
          (refine end_quiet hB rfl ?_ (by simp)
           simp only [look_zero, look_succ]
           rw [range_all_false hlt (by rw [hok]; simp only [*, Bool.not_true, Bool.not_false, Bool.false_and, Bool.and_false]), Bool.false_and]
           done)
        all_goals
          have hnext : ∀ j, j < i + 1 → okFit l r.cols j = true := by
            intro j hj
            rcases Nat.lt_or_ge j i with h | h
            · exact hinv j h
            · obtain rfl : j = i := by omega
              rw [hok]
              simp only [*, Bool.not_false, Bool.and_self]
          rw [andThen_normal]
          refine ⟨(r.cols).length - (i + 1), by omega, _, ?_, i + 1, ⟨by omega, hnext⟩, rfl, rfl⟩
          first
            | (refine weak_junk ?_; (try simp only [go_sem]); simp [LeT]; done)
            | (simp only [go_sem, List.map_append, List.map_cons, List.map_nil, List.length_append, List.length_cons, List.length_nil, List.length_map, Nat.zero_add, List.append_assoc, List.cons_append, List.nil_append]; refine weak_junk ?_; simp [LeT]; done)
            | ((try simp only [go_sem, List.map_append, List.map_cons, List.map_nil, List.length_append, List.length_cons, List.length_nil, List.length_map, Nat.zero_add, List.append_assoc, List.cons_append, List.nil_append]); refine weak_cut _ (by first | rfl | (simp only [List.append_assoc, List.cons_append, List.nil_append]; rfl)) (by simp) (by simp [LeT]) (by simp) (by first | exact hB | (refine hB_app hB ?_; simp; done) | (refine hB_app hB ?_; simp [or_imp, forall_and]; done) | (refine hB_app hB ?_; simp; refine forall_set ?_ ?_ <;> simp; done)); done)
      · have hd : decide (i < (r.cols).length) = false := by simpa using hlt
        have hnil : (r.cols).drop i = [] := List.drop_eq_nil_of_le (by omega)
        try rw [hnil] at hinv
        have hall : (List.range r.cols.length).all (okFit l r.cols) = true := range_all_true (fun j hj => hinv j (by omega))
        repeat (first
          | ((with_reducible first | refine isWL ?_ | refine isGW ?_ | refine isWQ ?_ | refine isGQ ?_); simp only [go_sem, Nat.reduceAdd, Nat.reduceMul, Nat.reduceLeDiff, Nat.reduceLT, Nat.reduceEqDiff, Int.reduceToNat, Int.reduceLE, Int.reduceLT, List.forall_mem_cons, List.not_mem_nil, false_implies, implies_true, hd, List.length_map])
          | refine awp_seq_k (fun K hK => ?_)
          | refine awp_block ?_
          | refine awp_region_w (by first | (simp; done) | assumption | (simp; omega)) (fun Q hQ => ?_)
          | refine awp_region_q mixed (by kernel_rfl) (by kernel_rfl) rfl (by first | (simp; done) | assumption | (simp; omega)) (fun Q hQ => ?_)
          | refine Both.mk ?_ ?_
          | (refine hQ _ _ ?_; clear hQ Q)
          | (refine hQ _ ?_; clear hQ Q)
          | refine awp_cond_true rfl ?_
          | refine awp_cond_false rfl ?_
          | refine awp_skip ?_
          | (refine awp_exit ?_; simp only [go_sem, Nat.reduceEqDiff])
          | (refine awp_ret ?_; try simp only [inBlock_ret, andThen_ret])
          | ((first | refine hK _ ?_ | (clear hK K; refine hK _ ?_) | (clear hK K; clear hK K; refine hK _ ?_) | (clear hK K; clear hK K; clear hK K; refine hK _ ?_) | (clear hK K; clear hK K; clear hK K; clear hK K; refine hK _ ?_) | (clear hK K; clear hK K; clear hK K; clear hK K; clear hK K; refine hK _ ?_) | (clear hK K; clear hK K; clear hK K; clear hK K; clear hK K; clear hK K; refine hK _ ?_)); clear hK; clear K)
          | refine And.intro (by first | assumption | omega | trivial | rfl | (simp; done)) ?_)
        first | refine hK _ (hall) ?_ | (clear hK K; refine hK _ (hall) ?_) | (clear hK K; clear hK K; refine hK _ (hall) ?_) | (clear hK K; clear hK K; clear hK K; refine hK _ (hall) ?_)
        first
          | (refine weak_junk ?_; (try simp only [go_sem]); simp [LeT]; done)
          | (simp only [go_sem, List.map_append, List.map_cons, List.map_nil, List.length_append, List.length_cons, List.length_nil, List.length_map, Nat.zero_add, List.append_assoc, List.cons_append, List.nil_append]; refine weak_junk ?_; simp [LeT]; done)
          | ((try simp only [go_sem, List.map_append, List.map_cons, List.map_nil, List.length_append, List.length_cons, List.length_nil, List.length_map, Nat.zero_add, List.append_assoc, List.cons_append, List.nil_append]); refine weak_cut _ (by first | rfl | (simp only [List.append_assoc, List.cons_append, List.nil_append]; rfl)) (by simp) (by simp [LeT]) (by simp) (by first | exact hB | (refine hB_app hB ?_; simp; done) | (refine hB_app hB ?_; simp [or_imp, forall_and]; done) | (refine hB_app hB ?_; simp; refine forall_set ?_ ?_ <;> simp; done)); done)
  have hall := hfact
  have hlen := okFit_len hall
  have hval : ((List.range r.cols.length).all (okFit l r.cols) && (nameB r.name && !((r.cols.length : Int) == 0) && fitTail l r)) = (nameB r.name && !((r.cols.length : Int) == 0) && fitTail l r) := by rw [hall, Bool.true_and]
  rw [hval]
  refine awp_seq_fact ((nameB r.name && !((r.cols.length : Int) == 0)) = true) [(34, .junk), (35, .junk), (36, .junk), (37, .junk), (38, .junk), (39, .junk), (40, .junk), (41, .junk), (42, .junk), (43, .junk)] (H ++ [.var r.cells]) (fun K hK => ?_) (fun hfact => ?_)
  · repeat' (first
      | ((with_reducible first | refine isWL ?_ | refine isGW ?_ | refine isWQ ?_ | refine isGQ ?_); (first | simp only [go_sem, Nat.reduceAdd, Nat.reduceMul, Nat.reduceLeDiff, Nat.reduceLT, Nat.reduceEqDiff, Int.reduceToNat, Int.reduceLE, Int.reduceLT, List.forall_mem_cons, List.not_mem_nil, false_implies, implies_true, List.length_map, hc] | simp only [go_sem, Nat.reduceAdd, Nat.reduceMul, Nat.reduceLeDiff, Nat.reduceLT, Nat.reduceEqDiff, Int.reduceToNat, Int.reduceLE, Int.reduceLT, List.forall_mem_cons, List.not_mem_nil, false_implies, implies_true, List.length_map]))
      | refine awp_seq_k (fun K hK => ?_)
      | refine awp_block ?_
      | refine awp_region_w (by first | (simp; done) | assumption | (simp; omega)) (fun Q hQ => ?_)
      | refine awp_region_q mixed (by kernel_rfl) (by kernel_rfl) rfl (by first | (simp; done) | assumption | (simp; omega)) (fun Q hQ => ?_)
      | refine callW_quiet (refName_q r.name g1 _) ?_
      | refine callQ_quiet (refName_q r.name g1 _) ?_
      | refine Both.mk ?_ ?_
      | (refine hQ _ _ ?_; clear hQ Q)
      | (refine hQ _ ?_; clear hQ Q)
      | refine awp_cond_true rfl ?_
      | refine awp_cond_false rfl ?_
      | refine awp_skip ?_
      | (refine awp_exit ?_; simp only [go_sem, Nat.reduceEqDiff])
      | (refine awp_ret ?_; try simp only [inBlock_ret, andThen_ret])
      | ((first | refine hK _ ?_ | (clear hK K; refine hK _ ?_) | (clear hK K; clear hK K; refine hK _ ?_) | (clear hK K; clear hK K; clear hK K; refine hK _ ?_) | (clear hK K; clear hK K; clear hK K; clear hK K; refine hK _ ?_) | (clear hK K; clear hK K; clear hK K; clear hK K; clear hK K; refine hK _ ?_) | (clear hK K; clear hK K; clear hK K; clear hK K; clear hK K; clear hK K; refine hK _ ?_)); clear hK; clear K)
      | refine And.intro (by first | assumption | omega | trivial | rfl | (simp; done)) ?_
      | (refine awp_cond _ rfl (fun hc => ?_) (fun hc => ?_) <;> (try simp only [Bool.not_eq_true', Bool.not_eq_false'] at hc) <;> (try simp only [hc]))
      | (refine gdW_split (fun hc => ?_) (fun hc => ?_) <;> (try simp only [Bool.not_eq_true', Bool.not_eq_false'] at hc))
      | (refine gdQ_split (fun hc => ?_) (fun hc => ?_) <;> (try simp only [Bool.not_eq_true', Bool.not_eq_false'] at hc)))
    all_goals try
      (refine end_quiet hB rfl ?_ (by simp)
       simp only [look_zero, look_succ, *, Bool.true_and, Bool.false_and, Bool.not_true, Bool.not_false]
       done)
    first | refine hK _ (by simp only [*, Bool.true_and, Bool.not_false]) ?_ | (clear hK K; refine hK _ (by simp only [*, Bool.true_and, Bool.not_false]) ?_) | (clear hK K; clear hK K; refine hK _ (by simp only [*, Bool.true_and, Bool.not_false]) ?_) | (clear hK K; clear hK K; clear hK K; refine hK _ (by simp only [*, Bool.true_and, Bool.not_false]) ?_)
    first
      | (refine weak_junk ?_; (try simp only [go_sem]); simp [LeT]; done)
      | (simp only [go_sem, List.map_append, List.map_cons, List.map_nil, List.length_append, List.length_cons, List.length_nil, List.length_map, Nat.zero_add, List.append_assoc, List.cons_append, List.nil_append]; refine weak_junk ?_; simp [LeT]; done)
      | ((try simp only [go_sem, List.map_append, List.map_cons, List.map_nil, List.length_append, List.length_cons, List.length_nil, List.length_map, Nat.zero_add, List.append_assoc, List.cons_append, List.nil_append]); refine weak_cut _ (by first | rfl | (simp only [List.append_assoc, List.cons_append, List.nil_append]; rfl)) (by simp) (by simp [LeT]) (by simp) (by first | exact hB | (refine hB_app hB ?_; simp; done) | (refine hB_app hB ?_; simp [or_imp, forall_and]; done) | (refine hB_app hB ?_; simp; refine forall_set ?_ ?_ <;> simp; done)); done)
  have hnm := hfact
  rw [hnm, Bool.true_and]
  refine awp_seq_at [(6, .bool (bare3 r)), (44, .junk), (45, .junk), (46, .junk), (47, .junk), (48, .junk), (49, .junk), (50, .junk), (51, .junk), (52, .junk), (53, .junk), (54, .junk), (55, .junk), (56, .junk)] (H ++ [.var r.cells]) (fun K hK => ?_) ?_
  · repeat' (first
      | ((with_reducible first | refine isWL ?_ | refine isGW ?_ | refine isWQ ?_ | refine isGQ ?_); (first | simp only [go_sem, Nat.reduceAdd, Nat.reduceMul, Nat.reduceLeDiff, Nat.reduceLT, Nat.reduceEqDiff, Int.reduceToNat, Int.reduceLE, Int.reduceLT, List.forall_mem_cons, List.not_mem_nil, false_implies, implies_true, hc] | simp only [go_sem, Nat.reduceAdd, Nat.reduceMul, Nat.reduceLeDiff, Nat.reduceLT, Nat.reduceEqDiff, Int.reduceToNat, Int.reduceLE, Int.reduceLT, List.forall_mem_cons, List.not_mem_nil, false_implies, implies_true]))
      | refine awp_seq_k (fun K hK => ?_)
      | refine awp_block ?_
      | refine awp_region_w (by first | (simp; done) | assumption | (simp; omega)) (fun Q hQ => ?_)
      | refine awp_region_q mixed (by kernel_rfl) (by kernel_rfl) rfl (by first | (simp; done) | assumption | (simp; omega)) (fun Q hQ => ?_)
      | refine Both.mk ?_ ?_
      | (refine hQ _ _ ?_; clear hQ Q)
      | (refine hQ _ ?_; clear hQ Q)
      | refine awp_cond_true rfl ?_
      | refine awp_cond_false rfl ?_
      | refine awp_skip ?_
      | (refine awp_exit ?_; simp only [go_sem, Nat.reduceEqDiff])
      | (refine awp_ret ?_; try simp only [inBlock_ret, andThen_ret])
      | ((first | refine hK _ ?_ | (clear hK K; refine hK _ ?_) | (clear hK K; clear hK K; refine hK _ ?_) | (clear hK K; clear hK K; clear hK K; refine hK _ ?_) | (clear hK K; clear hK K; clear hK K; clear hK K; refine hK _ ?_) | (clear hK K; clear hK K; clear hK K; clear hK K; clear hK K; refine hK _ ?_) | (clear hK K; clear hK K; clear hK K; clear hK K; clear hK K; clear hK K; refine hK _ ?_)); clear hK; clear K)
      | refine And.intro (by first | assumption | omega | trivial | rfl | (simp; done)) ?_
      | (refine awp_cond _ rfl (fun hc => ?_) (fun hc => ?_) <;> (try simp only [Bool.not_eq_true', Bool.not_eq_false'] at hc) <;> (try simp only [hc]))
      | (refine gdW_split (fun hc => ?_) (fun hc => ?_) <;> (try simp only [Bool.not_eq_true', Bool.not_eq_false'] at hc))
      | (refine gdQ_split (fun hc => ?_) (fun hc => ?_) <;> (try simp only [Bool.not_eq_true', Bool.not_eq_false'] at hc)))
    all_goals
      rw [bare3_eq]
      simp only [*, Bool.true_and, Bool.and_true, Bool.false_and, Bool.and_false]
      first
        | (refine weak_junk ?_; (try simp only [go_sem]); simp [LeT]; done)
        | (simp only [go_sem, List.map_append, List.map_cons, List.map_nil, List.length_append, List.length_cons, List.length_nil, List.length_map, Nat.zero_add, List.append_assoc, List.cons_append, List.nil_append]; refine weak_junk ?_; simp [LeT]; done)
        | ((try simp only [go_sem, List.map_append, List.map_cons, List.map_nil, List.length_append, List.length_cons, List.length_nil, List.length_map, Nat.zero_add, List.append_assoc, List.cons_append, List.nil_append]); refine weak_cut _ (by first | rfl | (simp only [List.append_assoc, List.cons_append, List.nil_append]; rfl)) (by simp) (by simp [LeT]) (by simp) (by first | exact hB | (refine hB_app hB ?_; simp; done) | (refine hB_app hB ?_; simp [or_imp, forall_and]; done) | (refine hB_app hB ?_; simp; refine forall_set ?_ ?_ <;> simp; done)); done)
  have hne : r.cols ≠ [] := by
    intro h0
    rw [h0] at hnm
    simp at hnm
  obtain ⟨s, ss, hs⟩ : ∃ s ss, r.cols = s :: ss := by
    cases hq : r.cols with
    | nil => exact absurd hq hne
    | cons s ss => exact ⟨s, ss, rfl⟩
  have h0 : 0 ≤ idxOf (fun c => c.name == s) l := by
    have := (List.all_eq_true.1 hall) 0 (List.mem_range.2 (by rw [hs]; simp))
    rw [okFit_at (s := s) (by rw [hs]; rfl)] at this
    simp only [Bool.and_eq_true, Bool.not_eq_true', decide_eq_false_iff_not] at this
    omega
  have hix := idxOf_lt (p := fun c : ColR => c.name == s) (l := l)
  obtain ⟨c, hc0⟩ : ∃ c, l[(idxOf (fun c => c.name == s) l).toNat]? = some c := ⟨_, List.getElem?_eq_getElem (by omega)⟩
  have hlk0 := look_map (g := ColR.av) hc0
  have hk : kindAt l (idxOf (fun c => c.name == s) l) = c.kind := by simp only [kindAt, hc0]
  have hhd : r.cols.headD [] = s := by rw [hs]; rfl
  repeat' (first
    | ((with_reducible first | refine isWL ?_ | refine isGW ?_ | refine isWQ ?_ | refine isGQ ?_); (first | simp only [go_sem, Nat.reduceAdd, Nat.reduceMul, Nat.reduceLeDiff, Nat.reduceLT, Nat.reduceEqDiff, Int.reduceToNat, Int.reduceLE, Int.reduceLT, List.forall_mem_cons, List.not_mem_nil, false_implies, implies_true, hs, List.map_cons, List.length_cons, List.length_map, hlk0, h0, hix, hc] | simp only [go_sem, Nat.reduceAdd, Nat.reduceMul, Nat.reduceLeDiff, Nat.reduceLT, Nat.reduceEqDiff, Int.reduceToNat, Int.reduceLE, Int.reduceLT, List.forall_mem_cons, List.not_mem_nil, false_implies, implies_true, hs, List.map_cons, List.length_cons, List.length_map, hlk0, h0, hix]))
    | refine awp_seq_k (fun K hK => ?_)
    | refine awp_block ?_
    | refine awp_region_w (by first | (simp; done) | assumption | (simp; omega)) (fun Q hQ => ?_)
    | refine awp_region_q mixed (by kernel_rfl) (by kernel_rfl) rfl (by first | (simp; done) | assumption | (simp; omega)) (fun Q hQ => ?_)
    | refine callW_quiet (refColumn_q l s hn _) ?_
    | refine callQ_quiet (refColumn_q l s hn _) ?_
    | refine callW_quiet (refName_q r.schema g3 _) ?_
    | refine callQ_quiet (refName_q r.schema g3 _) ?_
    | refine callW_quiet (refName_q r.table g4 _) ?_
    | refine callQ_quiet (refName_q r.table g4 _) ?_
    | refine callW_quiet (refName_q r.key g5 _) ?_
    | refine callQ_quiet (refName_q r.key g5 _) ?_
    | refine Both.mk ?_ ?_
    | (refine hQ _ _ ?_; clear hQ Q)
    | (refine hQ _ ?_; clear hQ Q)
    | refine awp_cond_true rfl ?_
    | refine awp_cond_false rfl ?_
    | refine awp_skip ?_
    | (refine awp_exit ?_; simp only [go_sem, Nat.reduceEqDiff])
    | (refine awp_ret ?_; try simp only [inBlock_ret, andThen_ret])
    | ((first | refine hK _ ?_ | (clear hK K; refine hK _ ?_) | (clear hK K; clear hK K; refine hK _ ?_) | (clear hK K; clear hK K; clear hK K; refine hK _ ?_) | (clear hK K; clear hK K; clear hK K; clear hK K; refine hK _ ?_) | (clear hK K; clear hK K; clear hK K; clear hK K; clear hK K; refine hK _ ?_) | (clear hK K; clear hK K; clear hK K; clear hK K; clear hK K; clear hK K; refine hK _ ?_)); clear hK; clear K)
    | refine And.intro (by first | assumption | omega | trivial | rfl | (simp; done)) ?_
    | (refine awp_cond _ rfl (fun hc => ?_) (fun hc => ?_) <;> (try simp only [Bool.not_eq_true', Bool.not_eq_false'] at hc) <;> (try simp only [hc]))
    | (refine gdW_split (fun hc => ?_) (fun hc => ?_) <;> (try simp only [Bool.not_eq_true', Bool.not_eq_false'] at hc))
    | (refine gdQ_split (fun hc => ?_) (fun hc => ?_) <;> (try simp only [Bool.not_eq_true', Bool.not_eq_false'] at hc)))
  all_goals
    refine end_quiet hB rfl ?_ (by simp)
    simp only [look_zero, look_succ]
    clear hB hA
    simp only [fitTail, hhd, hk, hs, List.length_cons]
    simp_all

end Go.Proofs.Ytamoclnnakdiaaa.Abs
