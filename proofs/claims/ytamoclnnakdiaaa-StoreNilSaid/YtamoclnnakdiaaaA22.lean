/-
  Ranges over functions: the loop's record as an object; the statement; a round.
  Conditions: none.
-/
import Derived.Test.YtamoclnnakdiaaaA21
import Derived.Test.YtamoclnnakdiaaaA20
namespace Go.Proofs.Ytamoclnnakdiaaa.Abs
open Go Go.RowKit
set_option linter.unusedVariables false
set_option linter.unusedSimpArgs false

/-- A loop's record is written: it is the record still, or it is given up. -/
theorem loop_write {ρ : Nat → Nat} {H : List AObj} {w : World} (hh : HeapOK ρ H w) {id : Nat} {st : LoopState} {pend : Option Code} {T : List AV} {ps : Array Tmp} {asg body : Code}
    (ho : H[id]? = some (.loop st pend T ps asg body)) (o' : AObj) (ob : Obj)
    (hnew : o' = .dead ∨ ∃ (st' : LoopState) (pend' : Option Code) (fn D : Nat) (tmps : Array Value), o' = .loop st' pend' T ps asg body ∧ ob = .loop { state := st', pending := pend', fn := fn, tmps := tmps, params := ps, assign := asg, body := body, defers := D } ∧
      w.heap[ρ id]? = some (.loop { state := st, pending := pend, fn := fn, tmps := tmps, params := ps, assign := asg, body := body, defers := D }) ∧ tmps.size = T.length ∧ ∀ (k : Nat) (x : AV), T[k]? = some x → Rep ρ H w x (tmps.getD k undef)) :
    Ext H.length ρ H w ρ (hset H id o') (w.putObj (ρ id) ob) ∧ HeapOK ρ (hset H id o') (w.putObj (ρ id) ob) := by
  have hlt : ρ id < w.heap.size := hh.lt ⟨id, _, ho, trivial, rfl⟩
  have other : ∀ (j : Nat) (p : AObj), id ≠ j → H[j]? = some p → p.live → (w.putObj (ρ id) ob).heap[ρ j]? = w.heap[ρ j]? := by
    intro j p hij hp hpl
    exact World.putObj_heap_other (fun hx => hij (hh.inj j id p _ hp hpl ho trivial hx).symm)
  have hext : Ext H.length ρ H w ρ (hset H id o') (w.putObj (ρ id) ob) := by
    refine ⟨rfl, rfl, rfl, by simp, ?_, ?_, ?_⟩
    · intro b hb hm
      exact World.putObj_heap_other (fun hx => hm ⟨id, _, ho, trivial, hx.symm⟩)
    · rintro b ⟨j, p, hp, hpl, rfl⟩
      unfold hset at hp
      by_cases hj : id = j
      · subst hj; exact .inl ⟨id, _, ho, trivial, rfl⟩
      · rw [get_set_ne hj] at hp; exact .inl ⟨j, p, hp, hpl, rfl⟩
    · intro j p hj hp
      by_cases hij : id = j
      · subst hij
        rw [ho] at hp
        cases hp
        refine ⟨o', get_set_self ho, ?_⟩
        rcases hnew with rfl | ⟨st', pend', fn, D, tmps, rfl, _⟩
        · exact .left st pend T ps asg body
        · exact .loop st st' pend pend' T ps asg body rfl
      · refine ⟨p, by unfold hset; rw [get_set_ne hij]; exact hp, ?_⟩
        cases p with
        | var cs => exact .var cs cs rfl rfl
        | arr g e1 sz els => exact .arr g e1 sz els els rfl rfl (fun hne cur e2 hc => ⟨cur, by rw [other j _ hij hp hne]; exact hc, rfl⟩)
        | loop st1 pend1 T1 ps1 asg1 body1 => exact .loop st1 st1 pend1 pend1 T1 ps1 asg1 body1 rfl
        | dead => exact .dead
  have live_of : ∀ (j : Nat) (p : AObj), (hset H id o')[j]? = some p → p.live → ∃ q : AObj, H[j]? = some q ∧ q.live := by
    intro j p hp hpl
    unfold hset at hp
    by_cases hij : id = j
    · subst hij; exact ⟨_, ho, trivial⟩
    · rw [get_set_ne hij] at hp; exact ⟨p, hp, hpl⟩
  refine ⟨hext, ?_, ?_, ?_, ?_⟩
  · intro i j p q hp hpl hq hql hij
    obtain ⟨p', hp', hpl'⟩ := live_of i p hp hpl
    obtain ⟨q', hq', hql'⟩ := live_of j q hq hql
    exact hh.inj i j p' q' hp' hpl' hq' hql' hij
  · intro j cs hj
    unfold hset at hj
    by_cases hij : id = j
    · subst hij
      rw [get_set_self ho] at hj
      rcases hnew with rfl | ⟨_, _, _, _, _, rfl, _⟩ <;> cases hj
    · rw [get_set_ne hij] at hj
      obtain ⟨cur, e, h1, h2, h3⟩ := hh.var j cs hj
      exact ⟨cur, e, by rw [other j _ hij hj trivial]; exact h1, h2, fun k x hk => ⟨(h3 k x hk).1, (h3 k x hk).2.mono hext⟩⟩
  · intro j g e sz els hj
    unfold hset at hj
    by_cases hij : id = j
    · subst hij
      rw [get_set_self ho] at hj
      rcases hnew with rfl | ⟨_, _, _, _, _, rfl, _⟩ <;> cases hj
    · rw [get_set_ne hij] at hj
      obtain ⟨h1, h2⟩ := hh.arr j g e sz els hj
      refine ⟨h1, fun hne => ?_⟩
      obtain ⟨cur, cap, h3, h4, h5, h6, h7⟩ := h2 hne
      exact ⟨cur, cap, by rw [other j _ hij hj hne]; exact h3, h4, h5, h6, fun k x hk => ⟨(h7 k x hk).1, (h7 k x hk).2.mono hext⟩⟩
  · intro j st1 pend1 T1 ps1 asg1 body1 hj
    unfold hset at hj
    by_cases hij : id = j
    · subst hij
      rw [get_set_self ho] at hj
      rcases hnew with rfl | ⟨st', pend', fn, D, tmps, rfl, rfl, q1, q2, q3⟩
      · cases hj
      · cases hj
        exact ⟨fn, D, tmps, World.putObj_heap_same hlt, q2, fun k x hk => (q3 k x hk).mono hext⟩
    · rw [get_set_ne hij] at hj
      obtain ⟨fn, D, tmps, h1, h2, h3⟩ := hh.loop j st1 pend1 T1 ps1 asg1 body1 hj
      exact ⟨fn, D, tmps, by rw [other j _ hij hj trivial]; exact h1, h2, fun k x hk => (h3 k x hk).mono hext⟩

/-- A range over a function. -/
theorem awp_rangeFunc {P : Program} {m : Nat} {g : Operand} {ps : Array Tmp} {asg body : Code} {Q : AExit → AState → Prop} {T : List AV} {H : List AObj} {f : FuncId} {cap : List AV} (hf : hb P f = true) (hm : m ≤ H.length)
    (hg : ev T g = .fn (.func f) [] cap)
    (h : ACallF P f (.yfn H.length :: cap) (H ++ [.loop .ready none T ps asg body]) (fun x H' => (∃ v, x = .ret v) ∧ ∃ st pend, hget H' H.length = some (.loop st pend T ps asg body) ∧ st ≠ .busy ∧
      match pend with
      | none => Q .normal ⟨T, hset H' H.length .dead⟩
      | some c => AWP P false m c Q ⟨T, hset H' H.length .dead⟩)) : AWP P false m (.rangeFunc g ps asg body) Q ⟨T, H⟩ := by
  intro r hrd ρ w a hr
  obtain rfl := hrd rfl
  refine wpIn_rangeFunc ?_
  intro fn hfn
  have hge := rep_ev hr.tmps g
  rw [hg] at hge
  generalize hgv : a.eval g = gv at hge
  cases hge with
  | fn _ _ _ vf vc f1 f2 f3 f4 =>
    obtain rfl : vf = #[] := Array.eq_empty_of_size_eq_zero (by simpa using f1)
    obtain ⟨W1, hW1⟩ : ∃ W1, (w.alloc (.deferred (some []))).alloc (.loop { state := .ready, pending := none, fn, tmps := a.tmps, params := ps, assign := asg, body, defers := w.heap.size }) = W1 := ⟨_, rfl⟩
    have hL1 : W1.heap[w.heap.size + 1]? = some (.loop { state := .ready, pending := none, fn, tmps := a.tmps, params := ps, assign := asg, body, defers := w.heap.size }) := by
      rw [← hW1]; have := World.alloc_heap_new (w.alloc (.deferred (some []))) (.loop { state := .ready, pending := none, fn, tmps := a.tmps, params := ps, assign := asg, body, defers := w.heap.size }); rwa [World.size_alloc] at this
    have hK1 : W1.heap[w.heap.size]? = some (.deferred (some [])) := by
      rw [← hW1]; exact (Below.heap_alloc _ _ _ (by simp)).trans (World.alloc_heap_new w _)
    have hold : ∀ k, k < w.heap.size → W1.heap[k]? = w.heap[k]? := fun k hk => by
      rw [← hW1]; exact (Below.heap_alloc _ _ _ (by simp; omega)).trans (Below.heap_alloc _ _ _ hk)
    have hsz1 : W1.heap.size = w.heap.size + 2 := by rw [← hW1]; simp
    have hext1 : Ext H.length ρ H w (nu ρ H.length (w.heap.size + 1)) (H ++ [.loop .ready none T ps asg body]) W1 :=
      ext_push hr.heap (by omega) (by rw [← hW1]; rfl) (by rw [← hW1]; rfl) (by rw [← hW1]; rfl) (by omega) hold
    have hh1 : HeapOK (nu ρ H.length (w.heap.size + 1)) (H ++ [.loop .ready none T ps asg body]) W1 :=
      heapOK_push hr.heap (by omega) hold hext1 (fun cs hx => by cases hx) (fun g e sz els hx => by cases hx) (fun st pend T1 ps1 asg1 body1 hx => by
        cases hx
        exact ⟨fn, w.heap.size, a.tmps, hL1, hr.tmps.1, hr.tmps.2⟩)
    have hargs : RepL (nu ρ H.length (w.heap.size + 1)) (H ++ [.loop .ready none T ps asg body]) W1 (.yfn H.length :: cap) (#[.func (.yield (w.heap.size + 1)) #[] #[]] ++ vc) := by
      refine ⟨by simp [f2]; omega, fun k x hk => ?_⟩
      cases k with
      | zero =>
        simp only [List.getElem?_cons_zero, Option.some.injEq] at hk
        subst hk
        have := Rep.yfn (ρ := nu ρ H.length (w.heap.size + 1)) (H := H ++ [.loop .ready none T ps asg body]) (w := W1) H.length .ready none T ps asg body (by simp)
        rw [nu_self] at this
        rw [Array.getD_eq_getD_getElem?, Array.getElem?_append_left (by simp)]
        exact this
      | succ k =>
        simp only [List.getElem?_cons_succ] at hk
        have := (f4 k x hk).mono hext1
        simp only [Array.getD_eq_getD_getElem?] at this ⊢
        rw [Array.getElem?_append_right (by simp)]
        simpa using this
    have hcall := ACallF.acalls hf h _ W1 _ hargs hh1
    refine ⟨w.heap.size + 1, [{ target := .collected w.heap.size, args := #[] }], W1, { target := .fn (.func f) vc, args := #[.func (.yield (w.heap.size + 1)) #[] #[]] }, W1, f, #[.func (.yield (w.heap.size + 1)) #[] #[]] ++ vc, W1, ?_, ?_, ?_, ?_, fun hx => (by cases hx), ?_⟩
    · rw [← hW1]; exact run_enterLoop_outer _ _ _ _ _
    · simp only [resolve, hgv]
      simp [go_sem]
    · intro f' _; trivial
    · exact run_callFunc hf _ _
    · refine CallsIn.mono (callsIn_FR hcall) ?_
      rintro e w3 ⟨x, H', ρ', ⟨⟨v, rfl⟩, st, pend, hl, hst, hq⟩, q2, q3, q4⟩
      cases e <;> simp only [endIs] at q2
      obtain ⟨o', ho', hx⟩ := q4.obj H.length (.loop .ready none T ps asg body) (by simp) (by simp)
      have hl' : H'[H.length]? = some (.loop st pend T ps asg body) := hl
      rw [hl'] at ho'
      cases ho'
      have hρ : ρ' H.length = w.heap.size + 1 := by
        cases hx with
        | loop _ _ _ _ _ _ _ _ k1 => exact k1.trans (nu_self _ _ _)
      obtain ⟨fn2, D2, tmps2, k1, k2, k3⟩ := q3.loop H.length st pend T ps asg body hl'
      rw [hρ] at k1
      obtain ⟨hext2, hh2⟩ := loop_write q3 hl' .dead (.loop { state := .exhausted, pending := pend, fn := fn2, tmps := tmps2, params := ps, assign := asg, body := body, defers := D2 }) (.inl rfl)
      rw [hρ] at hext2 hh2
      have hend := run_endLoop (P := P) k1 hst
      have hextA : Ext m ρ H w ρ' (hset H' H.length .dead) (w3.putObj (w.heap.size + 1) (.loop { state := .exhausted, pending := pend, fn := fn2, tmps := tmps2, params := ps, assign := asg, body := body, defers := D2 })) :=
        ((hext1.mono hm).trans (q4.mono (by simp; omega))).trans (hext2.mono (by have := lt_of_get hl'; omega))
      have hextT : Ext H.length ρ H w ρ' (hset H' H.length .dead) (w3.putObj (w.heap.size + 1) (.loop { state := .exhausted, pending := pend, fn := fn2, tmps := tmps2, params := ps, assign := asg, body := body, defers := D2 })) :=
        (hext1.trans (q4.mono (by simp))).trans (hext2.mono (by have := lt_of_get hl'; omega))
      have nomu1 : ¬ Mu (nu ρ H.length (w.heap.size + 1)) (H ++ [.loop .ready none T ps asg body]) w.heap.size := by
        rintro ⟨j, o, hj, hjl, hje⟩
        rcases get_push hj with ⟨hl1, hj'⟩ | ⟨rfl, rfl⟩
        · rw [nu_lt ρ hl1] at hje
          have := hr.heap.lt ⟨j, o, hj', hjl, rfl⟩
          omega
        · rw [nu_self] at hje; omega
      have hmk : Marks w ρ' (hset H' H.length .dead) (w3.putObj (w.heap.size + 1) (.loop { state := .exhausted, pending := pend, fn := fn2, tmps := tmps2, params := ps, assign := asg, body := body, defers := D2 })) a.defers (mark w.heap.size :: a.defers) := by
        have h0 : Marks w (nu ρ H.length (w.heap.size + 1)) (H ++ [.loop .ready none T ps asg body]) W1 a.defers (mark w.heap.size :: a.defers) :=
          ⟨[w.heap.size], rfl, by simp, fun D hD => by simp only [List.mem_singleton] at hD; subst hD; exact ⟨Nat.le_refl _, hK1, nomu1⟩⟩
        exact (h0.keep q4).keep hext2
      have hrel : Rel ρ' (w3.putObj (w.heap.size + 1) (.loop { state := .exhausted, pending := pend, fn := fn2, tmps := tmps2, params := ps, assign := asg, body := body, defers := D2 })) ⟨T, hset H' H.length .dead⟩ { a with defers := mark w.heap.size :: a.defers } :=
        ⟨hr.tmps.mono hextT, hh2⟩
      refine ⟨pend, _, hend, ?_⟩
      cases pend with
      | none => exact ⟨.normal, _, ρ', hq, trivial, hrel, hextA, hmk⟩
      | some c => exact wpIn_mono (hq none (fun _ => rfl) ρ' _ _ hrel) (fun e a' w' hl => hl.after hextA hmk)

end Go.Proofs.Ytamoclnnakdiaaa.Abs
