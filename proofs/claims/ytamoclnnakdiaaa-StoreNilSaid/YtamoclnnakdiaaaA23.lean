/-
  A round of a range over a function, as a call of its yield.
  Conditions: none.
-/
import Derived.Test.YtamoclnnakdiaaaA22
namespace Go.Proofs.Ytamoclnnakdiaaa.Abs
open Go Go.RowKit
set_option linter.unusedVariables false
set_option linter.unusedSimpArgs false

/-- yield's arguments in the loop's parameters. -/
def putAll (T : List AV) : List Tmp → List AV → List AV
  | p :: ps, x :: xs => putAll (putT T p x) ps xs
  | _, _ => T

theorem repL_putAll {ρ : Nat → Nat} {H : List AObj} {w : World} : ∀ (ps : List Tmp) (xs : List AV) (vs : List Value) (T : List AV) (tmps : Array Value), RepL ρ H w T tmps → vs.length = xs.length →
    (∀ (k : Nat) (x : AV), xs[k]? = some x → Rep ρ H w x (vs.getD k undef)) → RepL ρ H w (putAll T ps xs) ((ps.zip vs).foldl (fun t (p, v) => t.setIfInBounds p v) tmps)
  | [], _, _, T, tmps, h, _, _ => by simpa [putAll] using h
  | _ :: _, [], [], T, tmps, h, _, _ => by simpa [putAll] using h
  | _ :: _, [], _ :: _, _, _, _, hl, _ => by simp at hl
  | _ :: _, _ :: _, [], _, _, _, hl, _ => by simp at hl
  | p :: ps, x :: xs, v :: vs, T, tmps, h, hl, hx => by
    simp only [putAll, List.zip_cons_cons, List.foldl_cons]
    refine repL_putAll ps xs vs _ _ ?_ (by simpa using hl) (fun k y hk => by simpa using hx (k + 1) y (by simpa using hk))
    exact repL_put (a := { tmps := tmps, defers := [] }) h (some p) (by simpa using hx 0 x rfl)

/-- What a round's end comes to. -/
def roundEnd (m id : Nat) (T0 : List AV) (ps : Array Tmp) (asg body : Code) (R : AEnd → List AObj → Prop) (x : AExit) (S : AState) : Prop :=
  ∃ H2 pend, Weak m ⟨[], S.H⟩ ⟨[], H2⟩ ∧ hget H2 id = some (.loop .busy pend T0 ps asg body) ∧
    match x with
    | .normal => R (.ret (.bool true)) (hset H2 id (.loop .ready none T0 ps asg body))
    | .ret => R (.ret (.bool false)) (hset H2 id (.loop .done (some .ret) T0 ps asg body))
    | .exit i => R (.ret (.bool false)) (hset H2 id (.loop .done (some (.exit i)) T0 ps asg body))
    | .panic _ => False

theorem ext_len {ρ ρ' : Nat → Nat} {H H' : List AObj} {w w' : World} (he : Ext H.length ρ H w ρ' H' w') : H.length ≤ H'.length := by
  rcases Nat.eq_zero_or_pos H.length with h0 | h0
  · omega
  · obtain ⟨o', ho', _⟩ := he.obj (H.length - 1) _ (by omega) (List.getElem?_eq_getElem (by omega))
    have := lt_of_get ho'
    omega

theorem acallY_of {P : Program} {id : Nat} {pend0 : Option Code} {T0 : List AV} {ps : Array Tmp} {asg body : Code} {args : List AV} {H : List AObj} {R : AEnd → List AObj → Prop}
    (hid : hget H id = some (.loop .ready pend0 T0 ps asg body)) (hn : args.length = ps.size)
    (h : AWP P true H.length asg (fun x S1 => x = .normal ∧ ∃ pend, hget S1.H id = some (.loop .ready pend T0 ps asg body) ∧
      AWP P true H.length body (roundEnd H.length id T0 ps asg body R) ⟨S1.T, hset S1.H id (.loop .busy pend T0 ps asg body)⟩) ⟨putAll T0 ps.toList args, H⟩) : ACallY P id args H R := by
  have hid' : H[id]? = some (.loop .ready pend0 T0 ps asg body) := hid
  refine ⟨by rw [hid]; simp, fun ρ w vs ha hh => ?_⟩
  obtain ⟨fn, D, tmps, k1, k2, k3⟩ := hh.loop id _ _ _ _ _ _ hid'
  refine ⟨fn, _, asg, body, run_yield k1 (by rw [ha.1]; exact hn), roundIn_of_wpIn trivial ?_⟩
  have hfold : (ps.zip vs).foldl (fun t (p, v) => t.setIfInBounds p v) tmps = (ps.toList.zip vs.toList).foldl (fun t (p, v) => t.setIfInBounds p v) tmps := by
    rw [← Array.foldl_toList, Array.toList_zip]
  have hrel0 : Rel ρ w ⟨putAll T0 ps.toList args, H⟩ { tmps := (ps.zip vs).foldl (fun t (p, v) => t.setIfInBounds p v) tmps, defers := [] } := by
    refine ⟨?_, hh⟩
    show RepL ρ H w _ ((ps.zip vs).foldl (fun t (p, v) => t.setIfInBounds p v) tmps)
    rw [hfold]
    exact repL_putAll _ _ _ _ _ ⟨k2, k3⟩ (by simpa using ha.1) (fun k x hk => by have := ha.2 k x hk; simpa [Array.getD_eq_getD_getElem?, List.getD_eq_getElem?_getD] using this)
  refine wpIn_mono (h (some (ρ id)) (fun hx => by cases hx) ρ w _ hrel0) ?_
  rintro e a1 w1 ⟨x, S1, ρ1, ⟨rfl, pend1, hl1, hb⟩, h2, h3, h4, h5⟩
  cases e <;> simp only [exitIs] at h2
  have hidlt := lt_of_get hid'
  have same : ∀ {ρ2 : Nat → Nat} {H2 : List AObj} {w2 : World} {st : LoopState} {pend : Option Code}, Ext H.length ρ H w ρ2 H2 w2 → H2[id]? = some (.loop st pend T0 ps asg body) → ρ2 id = ρ id := by
    intro ρ2 H2 w2 st pend he hl
    obtain ⟨o', ho', hx⟩ := he.obj id _ hidlt hid'
    rw [hl] at ho'
    cases ho'
    cases hx with
    | loop _ _ _ _ _ _ _ _ q => exact q
  have hl1' : S1.H[id]? = some (.loop .ready pend1 T0 ps asg body) := hl1
  have hρ1 := same h4 hl1'
  obtain ⟨fn1, D1, tmps1, q1, q2, q3⟩ := h3.heap.loop id _ _ _ _ _ _ hl1'
  obtain ⟨hextB, hhB⟩ := loop_write h3.heap hl1' (.loop .busy pend1 T0 ps asg body) (.loop { state := .busy, pending := pend1, fn := fn1, tmps := tmps1, params := ps, assign := asg, body := body, defers := D1 }) (.inr ⟨_, _, fn1, D1, tmps1, rfl, rfl, q1, q2, q3⟩)
  rw [hρ1] at q1 hextB hhB
  have hlen : H.length ≤ S1.H.length := ext_len h4
  have hextB' := h4.trans (hextB.mono hlen)
  refine ⟨_, run_beginRound q1 rfl, wpIn_mono (hb (some (ρ id)) (fun hx => by cases hx) ρ1 _ a1 ⟨h3.tmps.mono hextB, hhB⟩) ?_⟩
  rintro e a2 w3 ⟨x2, S2, ρ2, ⟨H2, pend2, hw, hl2, hx2⟩, g2, g3, g4, g5⟩
  obtain ⟨ρ3, r3, e3⟩ := hw ρ2 w3 { tmps := #[], defers := [] } ⟨⟨rfl, fun k y hk => by simp at hk⟩, g3.heap⟩
  have hl2' : H2[id]? = some (.loop .busy pend2 T0 ps asg body) := hl2
  have hextC := (hextB'.trans g4).trans e3
  have hρ3 := same hextC hl2'
  have hh3 : HeapOK ρ3 H2 w3 := r3.heap
  obtain ⟨fn3, D3, tmps3, p1, p2, p3⟩ := hh3.loop id _ _ _ _ _ _ hl2'
  have hlen3 : H.length ≤ H2.length := ext_len hextC
  have fin : ∀ (jump : Option Code) (b : Bool), b = jump.isNone → R (.ret (.bool b)) (hset H2 id (.loop (if jump.isNone then .ready else .done) jump T0 ps asg body)) →
      ∃ v w', (Instr.endRound (ρ id) jump).run P w3 = .ok v w' ∧ LandsC ρ H w R (.returned v) w' := by
    intro jump b hjb hR
    obtain ⟨hextD, hhD⟩ := loop_write hh3 hl2' (.loop (if jump.isNone then .ready else .done) jump T0 ps asg body) (.loop { state := if jump.isNone then .ready else .done, pending := jump, fn := fn3, tmps := tmps3, params := ps, assign := asg, body := body, defers := D3 }) (.inr ⟨_, _, fn3, D3, tmps3, rfl, rfl, p1, p2, p3⟩)
    rw [hρ3] at hextD hhD
    have hrun := run_endRound (P := P) jump (hρ3 ▸ p1)
    exact ⟨_, _, hrun, .ret (.bool b), _, ρ3, hR, by rw [hjb]; exact .bool _, hhD, hextC.trans (hextD.mono hlen3)⟩
  cases x2 with
  | normal => cases e <;> simp only [exitIs] at g2; exact fin none true rfl hx2
  | ret => cases e <;> simp only [exitIs] at g2; exact fin (some .ret) false rfl hx2
  | exit i => cases e <;> simp only [exitIs] at g2; subst g2; exact fin (some (.exit i)) false rfl hx2
  | panic v => exact hx2.elim

end Go.Proofs.Ytamoclnnakdiaaa.Abs
