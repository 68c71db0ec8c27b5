/-
  Calls over abstract states, and what a body's end asks.
  Conditions: none.
-/
import Derived.Test.YtamoclnnakdiaaaA2
namespace Go.Proofs.Ytamoclnnakdiaaa.Abs
open Go Go.RowKit
set_option linter.unusedVariables false
set_option linter.unusedSimpArgs false

/-- How a call ends. -/
inductive AEnd where
  | ret (v : AV)
  | panic (v : AV)

def endIs (ρ : Nat → Nat) (H : List AObj) (w : World) : AEnd → Ending → Prop
  | .ret x, .returned v => Rep ρ H w x v
  | .panic x, .panicked chain => ∃ v : Value, chain = [{ v := v, recovered := false }] ∧ Rep ρ H w x v
  | _, _ => False

def LandsC (ρ : Nat → Nat) (H : List AObj) (w : World) (Q : AEnd → List AObj → Prop) (e : Ending) (w' : World) : Prop :=
  ∃ (x : AEnd) (H' : List AObj) (ρ' : Nat → Nat), Q x H' ∧ endIs ρ' H' w' x e ∧ HeapOK ρ' H' w' ∧ Ext H.length ρ H w ρ' H' w'

/-- A call with abstract arguments over an abstract heap ends as Q says. -/
def ACalls (P : Program) (f : FuncId) (args : List AV) (H : List AObj) (Q : AEnd → List AObj → Prop) : Prop :=
  ∀ (ρ : Nat → Nat) (w : World) (vs : Array Value), RepL ρ H w args vs → HeapOK ρ H w → Calls P f vs w (LandsC ρ H w Q)

theorem ACalls.mono {P : Program} {f : FuncId} {args : List AV} {H : List AObj} {Q Q' : AEnd → List AObj → Prop} (h : ACalls P f args H Q) (hq : ∀ x H', Q x H' → Q' x H') :
    ACalls P f args H Q' :=
  fun ρ w vs ha hh => (h ρ w vs ha hh).mono (fun e w' ⟨x, H', ρ', h1, h2, h3, h4⟩ => ⟨x, H', ρ', hq x H' h1, h2, h3, h4⟩)

/-- The call gives just this, and no object is made or turned. -/
def Quiet (P : Program) (f : FuncId) (args : List AV) (H : List AObj) (v : AV) : Prop := ACalls P f args H (fun x H' => x = .ret v ∧ H' = H)

/-- A value that lies at the head of a row of cells. -/
def loadV (c : Option (Bool × Nat)) (cs : List AV) : Option AV :=
  match c with
  | some (true, n) => if n ≤ cs.length then some (.agg (cs.take n)) else none
  | some (false, _) => cs.head?
  | none => none

/-- A result that lies in a variable. -/
def resCell (c : Option (Bool × Nat)) (H : List AObj) (x : AV) : Option AV :=
  match x with
  | .ptr id off =>
    match hget H id with
    | some (.var cs) => loadV c (cs.drop off)
    | _ => none
  | _ => none

def resOne (P : Program) (T : List AV) (H : List AObj) : ResultVar → Option AV
  | .tmp t => some (look T t)
  | .cell a t => resCell (tc P t) H (look T a)

def two (x y : Option AV) : Option AV :=
  match x, y with
  | some x, some y => some (.tuple [x, y])
  | _, _ => none
def three (x y z : Option AV) : Option AV :=
  match x, y, z with
  | some x, some y, some z => some (.tuple [x, y, z])
  | _, _, _ => none

def resS (P : Program) (T : List AV) (H : List AObj) : List ResultVar → Option AV
  | [] => some (.tuple [])
  | [r] => resOne P T H r
  | [r, s] => two (resOne P T H r) (resOne P T H s)
  | [r, s, t] => three (resOne P T H r) (resOne P T H s) (resOne P T H t)
  | _ => none

/-- The result of a function, off its slots and variables. -/
def resT (P : Program) (fn : Func) (T : List AV) (H : List AObj) : Option AV := resS P T H fn.results.toList

def resStep (tmps : Array Value) (r : ResultVar) : Sem Value :=
  match r with
  | .tmp t => pure (tmps.getD t undef)
  | .cell a t => do loadVar t (← asAddr (tmps.getD a undef))

theorem results_eq (fn : Func) (tmps : Array Value) : results fn tmps = (do
    let vs ← fn.results.mapM (resStep tmps)
    pure (if h : vs.size = 1 then vs[0] else .tuple vs)) := rfl

theorem loadV_loadA {P : Program} {t : TypeId} {cs : List AV} {x : AV} (h : loadV (tc P t) cs = some x) : loadA P t cs (fun v => v = x) := by
  unfold loadV at h
  unfold loadA
  generalize tc P t = c at h ⊢
  match c, h with
  | some (true, n), h =>
    simp only [] at h ⊢
    split at h
    · rename_i hn; cases h; exact ⟨hn, rfl⟩
    · cases h
  | some (false, n), h =>
    match cs, h with
    | c :: _, h => simp only [List.head?_cons, Option.some.injEq] at h; exact h
    | [], h => cases h
  | none, h => cases h

theorem resOne_run {P : Program} {ρ : Nat → Nat} {H : List AObj} {w : World} {T : List AV} {tmps : Array Value} (h : RepL ρ H w T tmps) (hh : HeapOK ρ H w) {r : ResultVar} {x : AV} (hx : resOne P T H r = some x) :
    ∃ v, (resStep tmps r).run P w = .ok v w ∧ Rep ρ H w x v := by
  cases r with
  | tmp t =>
    simp only [resOne, Option.some.injEq] at hx
    subst hx
    exact ⟨_, rfl, h.look t⟩
  | cell a t =>
    simp only [resOne] at hx
    unfold resCell at hx
    split at hx
    · rename_i id off hp
      split at hx
      · rename_i cs hid
        have hrep := h.look a
        rw [hp] at hrep
        cases hv : tmps.getD a undef with
        | _ => 
          rw [hv] at hrep
          first
          | (cases hrep; done)
          | (cases hrep with
             | ptr _ _ cs' hid' =>
               obtain ⟨cur, e, hc, hs, hcells⟩ := hh.var id cs hid
               obtain ⟨u, y, hrun, hK, hr⟩ := loadA_run (loadV_loadA hx) (ρ := ρ) (H := H) (w := w) ⟨ρ id, off, none⟩ (fun k => cur.getD (off + k) undef)
                 (fun k x hk => by
                   rw [List.getElem?_drop] at hk
                   have := lt_of_get hk
                   rw [add_off]
                   exact cell_row_getD hc (by omega))
                 (fun k x hk => by rw [List.getElem?_drop] at hk; exact (hcells _ x hk).1)
                 (fun k x hk => by rw [List.getElem?_drop] at hk; exact (hcells _ x hk).2)
               subst hK
               refine ⟨u, ?_, hr⟩
               simpa [resStep, asAddr, hv] using hrun)
      · cases hx
    · cases hx

theorem rep_results {P : Program} {fn : Func} {ρ : Nat → Nat} {H : List AObj} {w : World} {T : List AV} {tmps : Array Value} (h : RepL ρ H w T tmps) (hh : HeapOK ρ H w) {x : AV} (hx : resT P fn T H = some x) :
    ∃ v, (results fn tmps).run P w = .ok v w ∧ Rep ρ H w x v := by
  unfold resT resS at hx
  have hA : fn.results = fn.results.toList.toArray := by simp
  rw [results_eq]
  split at hx
  · rename_i he
    rw [he] at hA
    cases hx
    refine ⟨.tuple #[], by simp [hA], .tuple [] #[] rfl (by intro k x hk; simp at hk)⟩
  · rename_i r he
    rw [he] at hA
    obtain ⟨v, hv, hr⟩ := resOne_run h hh hx
    exact ⟨v, by simp [hA, hv], hr⟩
  · rename_i r s he
    rw [he] at hA
    unfold two at hx
    split at hx
    · rename_i y z hy hz
      cases hx
      obtain ⟨v1, hv1, hr1⟩ := resOne_run h hh hy
      obtain ⟨v2, hv2, hr2⟩ := resOne_run h hh hz
      refine ⟨.tuple #[v1, v2], by simp [hA, hv1, hv2], .tuple _ _ rfl ?_⟩
      intro k x hk
      match k, hk with
      | 0, hk => simp only [List.getElem?_cons_zero, Option.some.injEq] at hk; subst hk; exact hr1
      | 1, hk => simp only [List.getElem?_cons_succ, List.getElem?_cons_zero, Option.some.injEq] at hk; subst hk; exact hr2
      | k + 2, hk => simp at hk
    · cases hx
  · rename_i r s t he
    rw [he] at hA
    unfold three at hx
    split at hx
    · rename_i y z u hy hz hu
      cases hx
      obtain ⟨v1, hv1, hr1⟩ := resOne_run h hh hy
      obtain ⟨v2, hv2, hr2⟩ := resOne_run h hh hz
      obtain ⟨v3, hv3, hr3⟩ := resOne_run h hh hu
      refine ⟨.tuple #[v1, v2, v3], by simp [hA, hv1, hv2, hv3], .tuple _ _ rfl ?_⟩
      intro k x hk
      match k, hk with
      | 0, hk => simp only [List.getElem?_cons_zero, Option.some.injEq] at hk; subst hk; exact hr1
      | 1, hk => simp only [List.getElem?_cons_succ, List.getElem?_cons_zero, Option.some.injEq] at hk; subst hk; exact hr2
      | 2, hk => simp only [List.getElem?_cons_succ, List.getElem?_cons_zero, Option.some.injEq] at hk; subst hk; exact hr3
      | k + 3, hk => simp at hk
    · cases hx
  · cases hx

/-- What is asked at a body's end. -/
def bodyEnd (P : Program) (fn : Func) (m : Nat) (Q : AEnd → List AObj → Prop) : AExit → AState → Prop
  | .normal, S | .ret, S => ∃ v, resT P fn S.T S.H = some v ∧ ∃ S', Weak m ⟨[v], S.H⟩ S' ∧ ∃ v', S'.T = [v'] ∧ Q (.ret v') S'.H
  | .panic v, S => ∃ S', Weak m ⟨[v], S.H⟩ S' ∧ ∃ v', S'.T = [v'] ∧ Q (.panic v') S'.H
  | .exit _, _ => False

def args0 (fn : Func) (args : List AV) : List AV := args ++ List.replicate (fn.ntmps - args.length) .junk

/-- Marks are taken at a function's end: one step each, each block shut. -/
theorem leaves_marks {P : Program} {fn : Func} {tmps : Array Value} {R : Ending → World → Prop} {u : FrameMode} (hu : u ≠ .run) {n : Nat} {ρ : Nat → Nat} {H : List AObj} (Ds : List Nat) : ∀ (w : World),
    (∀ D, D ∈ Ds → n ≤ D ∧ w.heap[D]? = some (.deferred (some [])) ∧ ¬ Mu ρ H D) → Ds.Nodup →
    (∀ w', (w'.os = w.os ∧ w'.tape = w.tape ∧ w'.output = w.output ∧ w'.heap.size = w.heap.size ∧ (∀ b, b < n → w'.heap[b]? = w.heap[b]?) ∧ SameButDef w w') → LeavesInM Fence.wide 0 P fn tmps R [] u w') →
    LeavesInM Fence.wide 0 P fn tmps R (Ds.map mark) u w := by
  induction Ds with
  | nil => intro w h1 hn h2; exact h2 w ⟨rfl, rfl, rfl, rfl, fun _ _ => rfl, Nat.le_refl _, fun _ _ => rfl⟩
  | cons D Ds ih =>
    intro w h1 hn h2
    obtain ⟨hD, hn'⟩ := List.nodup_cons.1 hn
    obtain ⟨k1, k2, k3⟩ := h1 D (by simp)
    refine ⟨hu, .inl ⟨D, w.putObj D (.deferred none), rfl, run_takeDeferred k2, ?_⟩⟩
    refine ih (w.putObj D (.deferred none)) ?_ hn' ?_
    · intro E hE
      obtain ⟨q1, q2, q3⟩ := h1 E (by simp [hE])
      have hne : E ≠ D := fun hx => hD (hx ▸ hE)
      exact ⟨q1, (World.putObj_heap_other hne).trans q2, q3⟩
    · rintro w' ⟨q1, q2, q3, q4, q5, q6, q7⟩
      refine h2 w' ⟨q1, q2, q3, by rw [q4, World.putObj_size], fun b hb => (q5 b hb).trans (World.putObj_heap_other (by omega)), by rw [World.putObj_size] at q6; exact q6, fun b hb => ?_⟩
      have hne : b ≠ D := fun hx => by subst hx; exact hb _ k2
      have hsame : (w.putObj D (.deferred none)).heap[b]? = w.heap[b]? := World.putObj_heap_other hne
      exact (q7 b (by rw [hsame]; exact hb)).trans hsame

theorem acalls_of_awp {P : Program} {f : FuncId} {fn : Func} {c : Code} {args : List AV} {H : List AObj} {Q : AEnd → List AObj → Prop}
    (hf : P.funcs[f]? = some fn) (hb : fn.body = some c) (h : AWP P false H.length c (bodyEnd P fn H.length Q) ⟨args0 fn args, H⟩) : ACalls P f args H Q := by
  intro ρ w vs ha hh
  have hrel0 : Rel ρ w ⟨args0 fn args, H⟩ { tmps := vs ++ Array.replicate (fn.ntmps - vs.size) undef, defers := [] } := by
    refine ⟨⟨by simp [args0, ha.1], ?_⟩, hh⟩
    intro k x hk
    simp only [args0] at hk
    rw [List.getElem?_append] at hk
    simp only [Array.getD_eq_getD_getElem?]
    split at hk
    · rename_i hlt
      rw [Array.getElem?_append_left (by rw [ha.1]; exact hlt)]
      have := ha.2 k x hk
      simpa [Array.getD_eq_getD_getElem?] using this
    · rw [List.getElem?_replicate] at hk
      split at hk
      · cases hk; exact .junk _
      · cases hk
  refine callsIn_wide.1 (callsIn_of_wp_marks (n := 0) (F := Fence.wide) hf hb trivial (wpIn_mono (h none (fun _ => rfl) ρ w _ hrel0) ?_))
  rintro e a' w' ⟨x, S', ρ', h1, h2, h3, h4, Ds, hds, hnd, hD⟩
  simp only [List.append_nil] at hds
  have one : ∀ (w2 : World) (v : AV) (cv : Value), HeapOK ρ' S'.H w2 → Rep ρ' S'.H w2 v cv → Rel ρ' w2 ⟨[v], S'.H⟩ { tmps := #[cv], defers := [] } := by
    intro w2 v cv hh2 hv
    refine ⟨⟨rfl, ?_⟩, hh2⟩
    intro k y hk
    match k, hk with
    | 0, hk => simp only [List.getElem?_cons_zero, Option.some.injEq] at hk; subst hk; exact hv
    | k + 1, hk => simp at hk
  have back : ∀ (w2 : World) (v' : AV) (S'' : AState) (ρ'' : Nat → Nat) (cv : Value), S''.T = [v'] → Rel ρ'' w2 S'' { tmps := #[cv], defers := [] } → Rep ρ'' S''.H w2 v' cv := by
    intro w2 v' S'' ρ'' cv hT hr
    have := hr.tmps.2 0 v' (by rw [hT]; rfl)
    simpa using this
  -- what is found behind the marks
  have ext2 : ∀ (ρ'' : Nat → Nat) (H'' : List AObj) (w2 : World), Ext H.length ρ H w ρ'' H'' w' → (w2.os = w'.os ∧ w2.tape = w'.tape ∧ w2.output = w'.output ∧ w2.heap.size = w'.heap.size ∧ (∀ b, b < w.heap.size → w2.heap[b]? = w'.heap[b]?) ∧ SameButDef w' w2) → Ext H.length ρ H w ρ'' H'' w2 := by
    rintro ρ'' H'' w2 he ⟨q1, q2, q3, q4, q5, q6⟩
    refine ⟨q1.trans he.os, q2.trans he.tape, q3.trans he.output, by rw [q4]; exact he.size, fun b hb hm => (q5 b hb).trans (he.mem b hb hm), he.mu, fun id o hid ho => ?_⟩
    obtain ⟨o', ho', hx⟩ := he.obj id o hid ho
    refine ⟨o', ho', ?_⟩
    cases hx with
    | var cs cs' k1 k2 => exact .var cs cs' k1 k2
    | arr g e sz els els' k1 k2 k3 =>
      refine .arr g e sz els els' k1 k2 (fun hne => ?_)
      intro cur e2 hc
      obtain ⟨c1, c2, c3⟩ := k3 hne cur e2 hc
      exact ⟨c1, (q5 _ (lt_of_aget hc)).trans c2, c3⟩
    | grown g g' e e' sz sz' els els' k1 => exact .grown g g' e e' sz sz' els els' k1
    | died g e sz els => exact .died g e sz els
    | loop st st' pend pend' T ps asg body k1 => exact .loop st st' pend pend' T ps asg body k1
    | left st pend T ps asg body => exact .left st pend T ps asg body
    | dead => exact .dead
  have done : ∀ (v : AV), resT P fn S'.T S'.H = some v → (∃ S'', Weak H.length ⟨[v], S'.H⟩ S'' ∧ ∃ v', S''.T = [v'] ∧ Q (.ret v') S''.H) →
      LeavesInM Fence.wide 0 P fn a'.tmps (LandsC ρ H w Q) a'.defers .returning w' := by
    rintro v hv ⟨S'', hw, v', hT, hQ⟩
    rw [hds]
    refine leaves_marks (by simp) Ds w' hD hnd (fun w2 hw2 => ?_)
    have hsm := hw2.2.2.2.2.2
    obtain ⟨cv, hrun, hrep⟩ := rep_results (P := P) (w := w2) ⟨h3.tmps.1, fun k x hk => (h3.tmps.2 k x hk).same hsm⟩ (h3.heap.same hsm) hv
    obtain ⟨ρ'', hr'', he''⟩ := hw ρ' w2 _ (one w2 v cv (h3.heap.same hsm) hrep)
    exact ⟨cv, hrun, .ret v', S''.H, ρ'', hQ, back w2 v' S'' ρ'' cv hT hr'', hr''.heap, (ext2 ρ' S'.H w2 h4 hw2).trans he''⟩
  cases x with
  | normal => cases e <;> simp only [exitIs] at h2; obtain ⟨v, hv, hr⟩ := h1; exact done v hv hr
  | ret => cases e <;> simp only [exitIs] at h2; obtain ⟨v, hv, hr⟩ := h1; exact done v hv hr
  | panic v =>
    cases e <;> simp only [exitIs] at h2
    obtain ⟨cv, rfl, hrep⟩ := h2
    obtain ⟨S'', hw, v', hT, hQ⟩ := h1
    show LeavesInM Fence.wide 0 P fn a'.tmps _ a'.defers (.panicking [{ v := cv, recovered := false }]) w'
    rw [hds]
    refine leaves_marks (by simp) Ds w' hD hnd (fun w2 hw2 => ?_)
    have hsm := hw2.2.2.2.2.2
    obtain ⟨ρ'', hr'', he''⟩ := hw ρ' w2 _ (one w2 v cv (h3.heap.same hsm) (hrep.same hsm))
    exact ⟨.panic v', S''.H, ρ'', hQ, ⟨cv, rfl, back w2 v' S'' ρ'' cv hT hr''⟩, hr''.heap, (ext2 ρ' S'.H w2 h4 hw2).trans he''⟩
  | exit i => exact h1.elim

end Go.Proofs.Ytamoclnnakdiaaa.Abs
