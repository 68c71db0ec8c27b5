/-
  Code and calls, reckoned by the kernel: what a closed call comes to.
  Conditions: none.
-/
import Derived.Test.YtamoclnnakdiaaaI2
namespace Go.Proofs.Ytamoclnnakdiaaa.Abs
open Go Go.RowKit
set_option linter.unusedVariables false
set_option linter.unusedSimpArgs false

/-! ## what stays of a heap -/
/-- Below m the heap has its objects still; loops are the same loops, or are given up. -/
def ExtA (m : Nat) (H H' : List AObj) : Prop := m ≤ H'.length ∧ ∀ (id : Nat) (st : LoopState) (pend : Option Code) (T : List AV) (ps : Array Tmp) (asg body : Code), id < m → H[id]? = some (.loop st pend T ps asg body) →
  (∃ st' pend', H'[id]? = some (.loop st' pend' T ps asg body)) ∨ H'[id]? = some .dead

theorem Ext.exta {m : Nat} {ρ ρ' : Nat → Nat} {H H' : List AObj} {w w' : World} (h : Ext m ρ H w ρ' H' w') (hm : m ≤ H.length) : ExtA m H H' := by
  refine ⟨?_, ?_⟩
  · rcases Nat.eq_zero_or_pos m with h0 | h0
    · omega
    · obtain ⟨o', ho', _⟩ := h.obj (m - 1) _ (by omega) (List.getElem?_eq_getElem (by omega))
      have := lt_of_get ho'
      omega
  · intro id st pend T ps asg body hid ho
    obtain ⟨o', ho', he⟩ := h.obj id _ hid ho
    cases he with
    | loop _ st' _ pend' _ _ _ _ _ => exact .inl ⟨st', pend', ho'⟩
    | left => exact .inr ho'

theorem AWP.exta {rd : Bool} {P : Program} {m : Nat} {c : Code} {Q : AExit → AState → Prop} {S : AState} (hm : m ≤ S.H.length) (h : AWP P rd m c Q S) : AWP P rd m c (fun x S' => Q x S' ∧ ExtA m S.H S'.H) S := by
  intro r hrd ρ w a hr
  refine wpIn_mono (h r hrd ρ w a hr) ?_
  rintro e a' w' ⟨x, S', ρ', h1, h2, h3, h4, h5⟩
  exact ⟨x, S', ρ', ⟨h1, h4.exta hm⟩, h2, h3, h4, h5⟩

theorem LandsC.exta {ρ : Nat → Nat} {H : List AObj} {w : World} {Q : AEnd → List AObj → Prop} {e : Ending} {w' : World} (h : LandsC ρ H w Q e w') : LandsC ρ H w (fun x H' => Q x H' ∧ ExtA H.length H H') e w' := by
  obtain ⟨x, H', ρ', h1, h2, h3, h4⟩ := h
  exact ⟨x, H', ρ', ⟨h1, h4.exta (Nat.le_refl _)⟩, h2, h3, h4⟩

theorem ACallF.exta {P : Program} {f : FuncId} {args : List AV} {H : List AObj} {Q : AEnd → List AObj → Prop} (h : ACallF P f args H Q) : ACallF P f args H (fun x H' => Q x H' ∧ ExtA H.length H H') := by
  intro ρ w vs ha hh
  rcases h ρ w vs ha hh with ⟨w1, h1, h2, h3⟩ | ⟨v, w', h1, h2⟩
  · exact .inl ⟨w1, h1, h2, h3.mono (fun e w' hl => hl.exta)⟩
  · exact .inr ⟨v, w', h1, h2.exta⟩

/-! ## code -/
/-- How code ends, reckoned. -/
abbrev XC := Option (AExit × Sl × Hp)

/-- The rounds of a loop. -/
def xLoop (f : Sl → Hp → XC) : Nat → Sl → Hp → XC
  | 0, _, _ => none
  | n + 1, T, H =>
    match f T H with
    | some (.normal, T', H') => xLoop f n T' H'
    | r => r

/-- What is done behind a range that was left. -/
def xPend : Option Code → Sl → Hp → XC
  | none, T, H => some (.normal, T, H)
  | some .ret, T, H => some (.ret, T, H)
  | some (.exit i), T, H => some (.exit i, T, H)
  | _, _, _ => none

def notBusy : LoopState → Bool
  | .busy => false
  | _ => true

noncomputable def xRange (P : Program) (cl : Clf) (g : AV) (ps : Array Tmp) (asg body : Code) (T : Sl) (H : Hp) : XC :=
  match g with
  | .fn (.func f) [] cap =>
    bif hb P f && okI H.n then
      match cl false (.f f) (.yfn H.n :: cap) (H.push (.loop .ready none T.l ps asg body)) with
      | some (.ret _, H') =>
        match hgetS H' H.n with
        | some (.loop st pend _ _ _ _) => bif notBusy st then xPend pend T (H'.set H.n .dead) else none
        | _ => none
      | _ => none
    else none
  | _ => none

noncomputable def xcOps (r : XO) : XC := XO.rec (motive := fun _ => XC) (fun T H => some (.normal, T, H)) (fun v T H => some (.panic v, T, H)) none r
noncomputable def xcDraw (r : Option (Sl × Hp)) : XC := Option.rec (motive := fun _ => XC) none (fun r => some (.normal, r.1, r.2)) r
noncomputable def xcSeq (r : XC) (next : Sl → Hp → XC) : XC :=
  Option.rec (motive := fun _ => XC) none (fun r => AExit.rec (motive := fun _ => XC) (next r.2.1 r.2.2) (fun i => some (.exit i, r.2)) (some (.ret, r.2)) (fun v => some (.panic v, r.2)) r.1) r
def isT : AV → Option Bool
  | .bool b => some b
  | _ => none
noncomputable def xcCond (c : Option Bool) (x y : XC) : XC := Option.rec (motive := fun _ => XC) none (fun b => Bool.rec (motive := fun _ => XC) y x b) c
noncomputable def xcBlock (id : Nat) (r : XC) : XC :=
  Option.rec (motive := fun _ => XC) none (fun r => AExit.rec (motive := fun _ => XC) (some (.normal, r.2)) (fun i => Bool.rec (motive := fun _ => XC) (some (.exit i, r.2)) (some (.normal, r.2)) (Nat.beq i id)) (some (.ret, r.2)) (fun v => some (.panic v, r.2)) r.1) r

noncomputable def xCode (P : Program) (cl : Clf) (fl m : Nat) (rd : Bool) (c : Code) : Sl → Hp → XC :=
  Code.rec (motive := fun _ => Sl → Hp → XC) (fun T H => some (.normal, T, H))
    (fun _ ops dr T H => Bool.rec (motive := fun _ => XC) (xcOps (xOps P cl ops.toList ops.toList T H)) (xcDraw (xDraw P cl ops.toList m T H)) dr)
    (fun _ _ ia ib T H => xcSeq (ia T H) ib)
    (fun c _ _ ia ib T H => xcCond (isT (evS T c)) (ia T H) (ib T H))
    (fun id _ ih T H => xcBlock id (ih T H))
    (fun _ ih T H => xLoop ih fl T H)
    (fun g ps asg body _ _ T H => Bool.rec (motive := fun _ => XC) (xRange P cl (evS T g) ps asg body T H) none rd)
    (fun i T H => some (.exit i, T, H)) (fun _ _ _ _ => none) (fun _ T H => some (.normal, T, H)) (fun _ _ _ => none) (fun T H => some (.ret, T, H)) (fun _ _ _ => none) c

/-- The end of code is this one. -/
def endsAt (x : AExit) (T : Sl) (H : Hp) : AExit → AState → Prop := fun y S => y = x ∧ S = ⟨T.l, H.l⟩

theorem xLoop_ok {rd : Bool} {P : Program} {m : Nat} {c : Code} {f : Sl → Hp → XC}
    (hf : ∀ (T : Sl) (H : Hp) (x : AExit) (T' : Sl) (H' : Hp), m ≤ H.n → f T H = some (x, T', H') → AWP P rd m c (endsAt x T' H') ⟨T.l, H.l⟩) {n : Nat} {T : Sl} {H : Hp} {x : AExit} {T' : Sl} {H' : Hp} (hm : m ≤ H.n)
    (h : xLoop f n T H = some (x, T', H')) : AWP P rd m (.loop c) (endsAt x T' H') ⟨T.l, H.l⟩ := by
  refine awp_loop (fun k S => ∃ (T1 : Sl) (H1 : Hp), S = ⟨T1.l, H1.l⟩ ∧ m ≤ H1.n ∧ xLoop f k T1 H1 = some (x, T', H')) ⟨n, ⟨T.l, H.l⟩, Weak.refl _ _, T, H, rfl, hm, h⟩ ?_
  rintro k S ⟨T1, H1, rfl, hm1, h1⟩
  cases k with
  | zero => cases h1
  | succ k =>
    simp only [xLoop] at h1
    cases hr : f T1 H1 with
    | none => rw [hr] at h1; cases h1
    | some r =>
      obtain ⟨y, T2, H2⟩ := r
      rw [hr] at h1
      refine (AWP.exta (by rw [hp_len]; exact hm1) (hf T1 H1 y T2 H2 hm1 hr)).mono ?_
      rintro z S' ⟨⟨rfl, rfl⟩, he⟩
      have he1 := he.1
      rw [hp_len] at he1
      cases z with
      | normal => exact ⟨k, Nat.lt_succ_self k, _, Weak.refl _ _, T2, H2, rfl, he1, h1⟩
      | exit i => cases h1; exact ⟨rfl, rfl⟩
      | ret => cases h1; exact ⟨rfl, rfl⟩
      | panic v => cases h1; exact ⟨rfl, rfl⟩

theorem hgetS_get (H : Hp) (id : Nat) : hgetS H id = H.l[id]? := by rw [hgetS_eq]; rfl

theorem xRange_ok {P : Program} {cl : Clf} (hcl : ClOK P cl) {m : Nat} {g : Operand} {ps : Array Tmp} {asg body : Code} {T T' : Sl} {H H' : Hp} {x : AExit} (hm : m ≤ H.n)
    (h : xRange P cl (evS T g) ps asg body T H = some (x, T', H')) : AWP P false m (.rangeFunc g ps asg body) (endsAt x T' H') ⟨T.l, H.l⟩ := by
  unfold xRange at h
  split at h
  · rename_i f cap hg
    obtain ⟨hbf, h⟩ := bif_some h
    simp only [Bool.and_eq_true] at hbf
    cases hc : cl false (.f f) (.yfn H.n :: cap) (H.push (.loop .ready none T.l ps asg body)) with
    | none => rw [hc] at h; cases h
    | some r =>
      obtain ⟨e, H1⟩ := r
      rw [hc] at h
      cases e with
      | panic v => cases h
      | ret v =>
        simp only at h
        split at h
        · rename_i st pend _ _ _ _ hl
          obtain ⟨hst, h⟩ := bif_some h
          have hcall := hcl _ _ _ _ _ _ hc
          have hpush : Hp.l (H.push (.loop .ready none T.l ps asg body)) = H.l ++ [.loop .ready none T.l ps asg body] := Row.toL_push _ _ _ hbf.2
          rw [hpush] at hcall
          rw [evS_eq] at hg
          refine awp_rangeFunc hbf.1 (by rw [hp_len]; exact hm) hg ?_
          rw [hp_len]
          refine (ACallF.exta hcall).mono ?_
          rintro y H2 ⟨⟨rfl, rfl⟩, he⟩
          refine ⟨⟨v, rfl⟩, ?_⟩
          rw [hgetS_get] at hl
          have hokn : okI H.n = true := hbf.2
          have hset : Hp.l (H1.set H.n .dead) = hset H1.l H.n .dead := Row.toL_set _ _ _ _ hokn
          rcases he.2 H.n .ready none T.l ps asg body (by simp [hp_len]) (by rw [List.getElem?_append_right (by rw [hp_len]; exact Nat.le_refl _), hp_len]; simp) with ⟨st', pend', h2⟩ | h2
          · rw [hl] at h2
            cases h2
            refine ⟨st, pend, hl, fun hx => by subst hx; simp [notBusy] at hst, ?_⟩
            rw [← hset]
            cases pend with
            | none => cases h; exact ⟨rfl, rfl⟩
            | some c =>
              cases c <;> first | cases h | skip
              · exact awp_exit ⟨rfl, rfl⟩
              · exact awp_ret ⟨rfl, rfl⟩
          · rw [hl] at h2; cases h2
        · cases h
  · cases h

theorem xCode_ok {P : Program} {cl : Clf} (hcl : ClOK P cl) (hmix : P.follows .mixedOrders = true) {fl m : Nat} {rd : Bool} : ∀ (c : Code) (T : Sl) (H : Hp) (x : AExit) (T' : Sl) (H' : Hp), m ≤ H.n →
    xCode P cl fl m rd c T H = some (x, T', H') → AWP P rd m c (endsAt x T' H') ⟨T.l, H.l⟩ := by
  intro c
  induction c with
  | skip => intro T H x T' H' hm h; cases h; exact awp_skip ⟨rfl, rfl⟩
  | label l => intro T H x T' H' hm h; cases h; exact awp_label ⟨rfl, rfl⟩
  | exit i => intro T H x T' H' hm h; cases h; exact awp_exit ⟨rfl, rfl⟩
  | ret => intro T H x T' H' hm h; cases h; exact awp_ret ⟨rfl, rfl⟩
  | region id ops draw =>
    intro T H x T' H' hm h
    cases draw with
    | false =>
      have h : xcOps (xOps P cl ops.toList ops.toList T H) = some (x, T', H') := h
      unfold xcOps at h
      have key : xoIs (endsAt x T' H') (xOps P cl ops.toList ops.toList T H) := by
        cases hx : xOps P cl ops.toList ops.toList T H with
        | fin T1 H1 => rw [hx] at h; cases h; exact ⟨rfl, rfl⟩
        | pan v T1 H1 => rw [hx] at h; cases h; exact ⟨rfl, rfl⟩
        | no => rw [hx] at h; cases h
      exact awp_region (by rw [hp_len]; exact hm) (walkL_sound (l := ops.toList) ops.toList T.l H.l (xOps_ok hcl _ _ _ key))
    | true =>
      have h : xcDraw (xDraw P cl ops.toList m T H) = some (x, T', H') := h
      unfold xcDraw at h
      cases hx : xDraw P cl ops.toList m T H with
      | none => rw [hx] at h; cases h
      | some r =>
        obtain ⟨T1, H1⟩ := r
        rw [hx] at h
        cases h
        exact xDraw_ok (l := ops.toList) hcl hmix hm hx ⟨rfl, rfl⟩
  | seq a b iha ihb =>
    intro T H x T' H' hm h
    have h : xcSeq (xCode P cl fl m rd a T H) (xCode P cl fl m rd b) = some (x, T', H') := h
    unfold xcSeq at h
    cases hx : xCode P cl fl m rd a T H with
    | none => rw [hx] at h; cases h
    | some r =>
      obtain ⟨y, T1, H1⟩ := r
      rw [hx] at h
      refine awp_seq ((AWP.exta (by rw [hp_len]; exact hm) (iha T H y T1 H1 hm hx)).mono ?_)
      rintro z S' ⟨⟨rfl, rfl⟩, he⟩
      have he1 := he.1
      rw [hp_len] at he1
      cases z with
      | normal => exact ihb T1 H1 x T' H' he1 h
      | exit i => cases h; exact ⟨rfl, rfl⟩
      | ret => cases h; exact ⟨rfl, rfl⟩
      | panic v => cases h; exact ⟨rfl, rfl⟩
  | cond c a b iha ihb =>
    intro T H x T' H' hm h
    have h : xcCond (isT (evS T c)) (xCode P cl fl m rd a T H) (xCode P cl fl m rd b T H) = some (x, T', H') := h
    unfold xcCond at h
    rw [evS_eq] at h
    cases hc : ev T.l c <;> rw [hc] at h <;> first | cases h | skip
    rename_i b0
    cases b0 with
    | true => exact awp_cond_true hc (iha T H x T' H' hm h)
    | false => exact awp_cond_false hc (ihb T H x T' H' hm h)
  | block id c ih =>
    intro T H x T' H' hm h
    have h : xcBlock id (xCode P cl fl m rd c T H) = some (x, T', H') := h
    unfold xcBlock at h
    cases hx : xCode P cl fl m rd c T H with
    | none => rw [hx] at h; cases h
    | some r =>
      obtain ⟨y, T1, H1⟩ := r
      rw [hx] at h
      refine awp_block ((ih T H y T1 H1 hm hx).mono ?_)
      rintro z S' ⟨rfl, rfl⟩
      cases z with
      | normal => cases h; exact ⟨rfl, rfl⟩
      | exit i =>
        simp only [AExit.inBlock]
        by_cases hi : i = id
        · subst hi
          simp only [Nat.beq_refl, cond_true, Option.some.injEq, Prod.mk.injEq] at h
          obtain ⟨rfl, rfl, rfl⟩ := h
          rw [if_pos rfl]
          exact ⟨rfl, rfl⟩
        · have hib : Nat.beq i id = false := by
            cases hq : Nat.beq i id with
            | true => exact absurd (Nat.eq_of_beq_eq_true hq) hi
            | false => rfl
          simp only [hib, cond_false, Option.some.injEq, Prod.mk.injEq] at h
          obtain ⟨rfl, rfl, rfl⟩ := h
          rw [if_neg hi]
          exact ⟨rfl, rfl⟩
      | ret => cases h; exact ⟨rfl, rfl⟩
      | panic v => cases h; exact ⟨rfl, rfl⟩
  | loop c ih =>
    intro T H x T' H' hm h
    have h : xLoop (xCode P cl fl m rd c) fl T H = some (x, T', H') := h
    exact xLoop_ok (fun T H x T' H' hm h => ih T H x T' H' hm h) hm h
  | rangeFunc g ps asg body _ _ =>
    intro T H x T' H' hm h
    cases rd with
    | true => cases h
    | false => exact xRange_ok hcl hm h
  | scope c _ => intro T H x T' H' hm h; cases h
  | goto l => intro T H x T' H' hm h; cases h
  | refuse w => intro T H x T' H' hm h; cases h

/-! ## calls -/
/-- What a call leaves: what it made goes, if nothing names it. -/
noncomputable def xCut (q : Bool) (m : Nat) (v : AV) (H : Hp) : Hp :=
  bif Nat.blt m H.n && (q || Nat.ble (Nat.add m (nat_lit 32)) H.n) && belB m v && belH m H m then ⟨m, H.t⟩ else H

theorem xCut_weak (q : Bool) (m : Nat) (v : AV) (H : Hp) (hm : m ≤ H.n) : Weak m ⟨[v], H.l⟩ ⟨[v], (xCut q m v H).l⟩ := by
  unfold xCut
  cases hb : Nat.blt m H.n && (q || Nat.ble (Nat.add m (nat_lit 32)) H.n) && belB m v && belH m H m with
  | false => exact Weak.refl _ _
  | true =>
    simp only [Bool.and_eq_true, Nat.blt_eq] at hb
    have hb := (⟨⟨hb.1.1.1, hb.1.2⟩, hb.2⟩ : (m < H.n ∧ belB m v = true) ∧ belH m H m = true)
    have hat : ∀ i, i < m → Row.at .dead (⟨m, H.t⟩ : Hp) i = Row.at .dead H i := by
      intro i hi
      have h1 : Nat.blt i m = true := by simpa using hi
      have h2 : Nat.blt i H.n = true := by simp; omega
      simp [Row.at_def, h1, h2]
    have htake : H.l = (Hp.l ⟨m, H.t⟩) ++ H.l.drop m := by
      apply List.ext_getElem?
      intro i
      rcases Nat.lt_or_ge i m with hi | hi
      · rw [List.getElem?_append_left (by rw [hp_len]; exact hi), Row.toL_get, Row.toL_get, if_pos (by omega), if_pos hi, hat i hi]
      · rw [List.getElem?_append_right (by rw [hp_len]; exact hi), hp_len, List.getElem?_drop]
        congr 1
        show i = m + (i - m)
        omega
    have hlen : (Hp.l ⟨m, H.t⟩).length = m := hp_len _
    have hw := weak_trunc (m := m) (T := [v]) (T' := [v]) (H := (Hp.l ⟨m, H.t⟩)) (L := H.l.drop m) (by omega) (LeT.refl _) (fun x hx => by
      simp only [List.mem_singleton] at hx
      subst hx
      rw [hlen]
      exact belB_ok m _ hb.1.2) (fun o ho => by
        rw [hlen]
        unfold Hp.l Row.toL at ho
        rw [List.mem_map] at ho
        obtain ⟨i, hi, rfl⟩ := ho
        have hi' : i < m := List.mem_range.1 hi
        rw [hat i hi']
        exact belH_ok hb.2 i hi')
    rwa [← htake] at hw

/-- A function's own table of calls that the machine does by itself. -/
abbrev Exf := FuncId → List AV → Option AV
def ExOK (P : Program) (ex : Exf) : Prop := ∀ (f : FuncId) (args : List AV) (v : AV), ex f args = some v → ∀ H, QuietF P f args H v

/-- The functions, as a tree. -/
def FsOK (P : Program) (fs : Tr Func) : Prop := ∀ (f : FuncId) (fn : Func), fs.get f = some fn → P.funcs[f]? = some fn

noncomputable def fsOf : List (FuncId × Func) → Tr Func
  | [] => .leaf
  | (f, fn) :: l => (fsOf l).ins 16 f fn
theorem fsOf_ok {P : Program} : ∀ {l : List (FuncId × Func)}, (∀ p, p ∈ l → P.funcs[p.1]? = some p.2 ∧ p.1 < 65535) → FsOK P (fsOf l)
  | [], _ => by intro f fn h; simp [fsOf, Tr.get_leaf] at h
  | (g, gn) :: l, h => by
    intro f fn hf
    have h0 := h (g, gn) (by simp)
    simp only [fsOf] at hf
    rw [Tr.get_ins 16 _ _ _ _ (by have := h0.2; simp only at this; omega)] at hf
    split at hf
    · rename_i hfg; cases hf; rw [hfg]; exact h0.1
    · exact fsOf_ok (fun p hp => h p (by simp [hp])) f fn hf

/-- The result of a function, off its slots and variables. -/
noncomputable def resOneS (P : Program) (T : Sl) (H : Hp) : ResultVar → Option AV
  | .tmp t => some (Row.at .junk T t)
  | .cell a t =>
    match Row.at .junk T a with
    | .ptr id off =>
      match hgetS H id with
      | some (.var cs) => loadV (tc P t) (cs.drop off)
      | _ => none
    | _ => none
theorem resOneS_eq (P : Program) (T : Sl) (H : Hp) (r : ResultVar) : resOneS P T H r = resOne P T.l H.l r := by
  cases r with
  | tmp t => simp only [resOneS, resOne, look_sl]
  | cell a t =>
    simp only [resOneS, resOne, look_sl, hgetS_eq]
    unfold resCell
    rfl
noncomputable def resSS (P : Program) (T : Sl) (H : Hp) : List ResultVar → Option AV
  | [] => some (.tuple [])
  | [r] => resOneS P T H r
  | [r, s] => two (resOneS P T H r) (resOneS P T H s)
  | [r, s, t] => three (resOneS P T H r) (resOneS P T H s) (resOneS P T H t)
  | _ => none
theorem resSS_eq (P : Program) (fn : Func) (T : Sl) (H : Hp) : resSS P T H fn.results.toList = resT P fn T.l H.l := by
  unfold resT resSS
  split <;> rename_i h <;> first | (rw [h]; simp only [resS, resOneS_eq]; done) | skip
  rename_i h1 h2 h3
  unfold resS
  split <;> first | rfl | simp_all

noncomputable def xRes (q : Bool) (r : Option AV) (m : Nat) (H : Hp) : Option (AEnd × Hp) := Option.rec (motive := fun _ => Option (AEnd × Hp)) none (fun v => some (.ret v, xCut q m v H)) r
noncomputable def xEnd (q : Bool) (P : Program) (fn : Func) (m : Nat) (r : XC) : Option (AEnd × Hp) :=
  Option.rec (motive := fun _ => Option (AEnd × Hp)) none (fun r => AExit.rec (motive := fun _ => Option (AEnd × Hp)) (xRes q (resSS P r.2.1 r.2.2 fn.results.toList) m r.2.2) (fun _ => none)
    (xRes q (resSS P r.2.1 r.2.2 fn.results.toList) m r.2.2) (fun v => some (.panic v, xCut q m v r.2.2)) r.1) r

noncomputable def xFn (q : Bool) (P : Program) (cl : Clf) (ex : Exf) (fs : Tr Func) (fl : Nat) (f : FuncId) (args : List AV) (H : Hp) : Option (AEnd × Hp) :=
  match ex f args with
  | some v => some (.ret v, H)
  | none =>
    match fs.get f with
    | some fn =>
      match fn.body with
      | some c => bif hb P f && Nat.ble args.length fn.ntmps && Nat.ble args.length 65535 then xEnd q P fn H.n (xCode P cl fl H.n false c (Row.of fn.ntmps args) H) else none
      | none => none
    | none => none

theorem xFn_ok {P : Program} {cl : Clf} (hcl : ClOK P cl) {ex : Exf} (hex : ExOK P ex) {fs : Tr Func} (hfs : FsOK P fs) (hmix : P.follows .mixedOrders = true) {fl : Nat} {q : Bool} {f : FuncId} {args : List AV} {H H' : Hp} {e : AEnd} (h : xFn q P cl ex fs fl f args H = some (e, H')) :
    ACallF P f args H.l (fun x H'' => x = e ∧ H'' = H'.l) := by
  unfold xFn at h
  cases hx0 : ex f args with
  | some v => rw [hx0] at h; cases h; exact hex f args v hx0 H.l
  | none =>
  rw [hx0] at h
  simp only at h
  cases hf0 : fs.get f with
  | none => rw [hf0] at h; cases h
  | some fn =>
    have hf := hfs f fn hf0
    rw [hf0] at h
    simp only at h
    cases hbd : fn.body with
    | none => rw [hbd] at h; cases h
    | some c =>
      rw [hbd] at h
      obtain ⟨hbf, h⟩ := bif_some h
      simp only [Bool.and_eq_true, Nat.ble_eq] at hbf
      refine ACallF.of hbf.1.1 (acalls_of_awp hf hbd ?_)
      have hargs : args0 fn args = Sl.l (Row.of fn.ntmps args) := by
        have := Row.toL_of AV.junk fn.ntmps args hbf.1.2 (by simpa using hbf.2)
        exact this.symm
      rw [hargs, hp_len]
      unfold xEnd at h
      cases hx : xCode P cl fl H.n false c (Row.of fn.ntmps args) H with
      | none => rw [hx] at h; cases h
      | some r =>
        obtain ⟨y, T, H1⟩ := r
        rw [hx] at h
        refine (AWP.exta (by rw [hp_len]; exact Nat.le_refl _) (xCode_ok hcl hmix c _ _ _ _ _ (Nat.le_refl _) hx)).mono ?_
        rintro z S' ⟨⟨rfl, rfl⟩, he⟩
        have he1 := he.1
        rw [hp_len] at he1
        have fin : ∀ (e' : AV → AEnd) (v : AV), (e = e' v ∧ H' = xCut q H.n v H1) → ∃ S'', Weak H.n ⟨[v], H1.l⟩ S'' ∧ ∃ v', S''.T = [v'] ∧ (e' v' = e ∧ S''.H = H'.l) := by
          rintro e' v ⟨rfl, rfl⟩
          exact ⟨_, xCut_weak q _ v H1 he1, v, rfl, rfl, rfl⟩
        cases z with
        | normal =>
          have h : xRes q (resSS P T H1 fn.results.toList) H.n H1 = some (e, H') := h
          unfold xRes at h
          cases hr : resSS P T H1 fn.results.toList with
          | none => rw [hr] at h; cases h
          | some v => rw [hr] at h; cases h; rw [resSS_eq] at hr; exact ⟨v, hr, fin .ret v ⟨rfl, rfl⟩⟩
        | ret =>
          have h : xRes q (resSS P T H1 fn.results.toList) H.n H1 = some (e, H') := h
          unfold xRes at h
          cases hr : resSS P T H1 fn.results.toList with
          | none => rw [hr] at h; cases h
          | some v => rw [hr] at h; cases h; rw [resSS_eq] at hr; exact ⟨v, hr, fin .ret v ⟨rfl, rfl⟩⟩
        | exit i => cases h
        | panic v => cases h; exact fin .panic v ⟨rfl, rfl⟩

/-- A round of a range over a function. -/
noncomputable def xYld (P : Program) (cl : Clf) (fl : Nat) (id : Nat) (args : List AV) (H : Hp) : Option (AEnd × Hp) :=
  match hgetS H id with
  | some (.loop .ready _ T0 ps asg body) =>
    bif Nat.beq args.length ps.size && okI id && Nat.ble (putAll T0 ps.toList args).length 65535 then
      match xCode P cl fl H.n true asg (Row.of (putAll T0 ps.toList args).length (putAll T0 ps.toList args)) H with
      | some (.normal, T1, H1) =>
        match hgetS H1 id with
        | some (.loop .ready pend _ _ _ _) =>
          match xCode P cl fl H.n true body T1 (H1.set id (.loop .busy pend T0 ps asg body)) with
          | some (x, _, H2) =>
            match hgetS H2 id with
            | some (.loop .busy _ _ _ _ _) =>
              match x with
              | .normal => some (.ret (.bool true), H2.set id (.loop .ready none T0 ps asg body))
              | .ret => some (.ret (.bool false), H2.set id (.loop .done (some .ret) T0 ps asg body))
              | .exit i => some (.ret (.bool false), H2.set id (.loop .done (some (.exit i)) T0 ps asg body))
              | .panic _ => none
            | _ => none
          | none => none
        | _ => none
      | _ => none
    else none
  | _ => none

theorem xYld_ok {P : Program} {cl : Clf} (hcl : ClOK P cl) (hmix : P.follows .mixedOrders = true) {fl id : Nat} {args : List AV} {H H' : Hp} {e : AEnd} (h : xYld P cl fl id args H = some (e, H')) :
    ACallY P id args H.l (fun x H'' => x = e ∧ H'' = H'.l) := by
  unfold xYld at h
  split at h
  · rename_i pend0 T0 ps asg body hid
    obtain ⟨hn, h⟩ := bif_some h
    simp only [Bool.and_eq_true, Nat.beq_eq] at hn
    rw [hgetS_get] at hid
    have hlt := lt_of_get hid
    rw [hp_len] at hlt
    have hset : ∀ (X : Hp) (o : AObj), Hp.l (X.set id o) = hset X.l id o := fun X o => Row.toL_set _ _ _ _ hn.1.2
    refine acallY_of (H := H.l) hid hn.1.1 ?_
    have hT : putAll T0 ps.toList args = Sl.l (Row.of (putAll T0 ps.toList args).length (putAll T0 ps.toList args)) := by
      have := Row.toL_of .junk (putAll T0 ps.toList args).length (putAll T0 ps.toList args) (Nat.le_refl _) hn.2
      rw [Nat.sub_self, List.replicate_zero, List.append_nil] at this
      exact this.symm
    rw [hp_len]
    rw [show (⟨putAll T0 ps.toList args, H.l⟩ : AState) = ⟨Sl.l (Row.of (putAll T0 ps.toList args).length (putAll T0 ps.toList args)), H.l⟩ by rw [← hT]]
    split at h
    · rename_i T1 H1 hx1
      split at h
      · rename_i pend _ _ _ _ hl1
        refine (AWP.exta (by rw [hp_len]; exact Nat.le_refl _) (xCode_ok hcl hmix asg _ _ _ _ _ (Nat.le_refl _) hx1)).mono ?_
        rintro z S1 ⟨⟨rfl, rfl⟩, he⟩
        rw [hgetS_get] at hl1
        refine ⟨rfl, pend, ?_, ?_⟩
        · rcases he.2 id _ _ _ _ _ _ hlt hid with ⟨st', pend', h2⟩ | h2
          · rw [hl1] at h2; cases h2; exact hl1
          · rw [hl1] at h2; cases h2
        · have he1 := he.1
          rw [hp_len] at he1
          split at h
          · rename_i x T2 H2 hx2
            have hset1 : (Hp.l (H1.set id (.loop .busy pend T0 ps asg body)))[id]? = some (.loop .busy pend T0 ps asg body) := by
              rw [hset]
              have : id < H1.l.length := by rw [hp_len]; omega
              simp [Abs.hset, this]
            have hn1 : (H1.set id (.loop .busy pend T0 ps asg body)).n = H1.n := rfl
            show AWP P true H.n body _ ⟨T1.l, Abs.hset H1.l id (.loop .busy pend T0 ps asg body)⟩
            rw [← hset]
            refine (AWP.exta (S := ⟨T1.l, Hp.l (H1.set id (.loop .busy pend T0 ps asg body))⟩) (by rw [hp_len, hn1]; exact he1) (xCode_ok hcl hmix body _ _ _ _ _ (by rw [hn1]; exact he1) hx2)).mono ?_
            rintro z S2 ⟨⟨rfl, rfl⟩, he2⟩
            split at h
            · rename_i pend2 _ _ _ _ hl2
              rw [hgetS_get] at hl2
              rcases he2.2 id _ _ _ _ _ _ hlt hset1 with ⟨st', pend', h2⟩ | h2
              · rw [hl2] at h2
                cases h2
                refine ⟨H2.l, pend2, Weak.refl _ _, hl2, ?_⟩
                cases z with
                | normal => cases h; exact ⟨rfl, (hset _ _).symm⟩
                | ret => cases h; exact ⟨rfl, (hset _ _).symm⟩
                | exit i => cases h; exact ⟨rfl, (hset _ _).symm⟩
                | panic v => cases h
              · rw [hl2] at h2; cases h2
            · cases h
          · cases h
      · cases h
    · cases h
  · cases h

/-- Calls, to a depth. -/
noncomputable def xCl (P : Program) (ex : Exf) (fs : Tr Func) (fl : Nat) : Nat → Clf
  | 0, _, _, _, _ => none
  | d + 1, q, .f f, args, H => xFn q P (xCl P ex fs fl d) ex fs fl f args H
  | d + 1, _, .y id, args, H => xYld P (xCl P ex fs fl d) fl id args H

theorem xCl_ok {P : Program} {ex : Exf} (hex : ExOK P ex) {fs : Tr Func} (hfs : FsOK P fs) (hmix : P.follows .mixedOrders = true) {fl : Nat} : ∀ d, ClOK P (xCl P ex fs fl d)
  | 0, q, g, args, H, e, H', h => by cases h
  | d + 1, q, .f f, args, H, e, H', h => xFn_ok (xCl_ok hex hfs hmix d) hex hfs hmix h
  | d + 1, q, .y id, args, H, e, H', h => xYld_ok (xCl_ok hex hfs hmix d) hmix h

/-- The empty heap. -/
def hp0 : Hp := ⟨0, .leaf⟩

/-- A closed call that answers by a thing without names: in any heap. -/
theorem quiet_of_x {P : Program} {ex : Exf} (hex : ExOK P ex) {fs : Tr Func} (hfs : FsOK P fs) (hmix : P.follows .mixedOrders = true) (fl d : Nat) {f : FuncId} {b : Bool} (h : (match xCl P ex fs fl d false (.f f) [] hp0 with | some (.ret (.bool c), _) => some c | _ => none) = some b) (H : List AObj) :
    QuietF P f [] H (.bool b) := by
  cases hx : xCl P ex fs fl d false (.f f) [] hp0 with
  | none => rw [hx] at h; cases h
  | some r =>
    obtain ⟨e, H1⟩ := r
    rw [hx] at h
    have hq : ACallF P f [] [] (fun x H'' => x = e ∧ H'' = H1.l) := xCl_ok hex hfs hmix d _ _ _ _ _ _ hx
    cases e with
    | panic v => cases h
    | ret v =>
      cases v <;> first | cases h | skip
      intro ρ w vs ha hh
      have lift : ∀ (e : Ending) (w' : World), LandsC ρ [] w (fun x H'' => x = .ret (.bool b) ∧ H'' = H1.l) e w' → LandsC ρ H w (fun x H' => x = .ret (.bool b) ∧ H' = H) e w' := by
        rintro e w' ⟨x, H2, ρ', ⟨rfl, rfl⟩, h2, h3, h4⟩
        have nomu : ∀ c, ¬ Mu ρ [] c := by rintro c ⟨id, o, ho, _⟩; simp at ho
        have hold : ∀ c, c < w.heap.size → w'.heap[c]? = w.heap[c]? := fun c hc => h4.mem c hc (nomu c)
        have hext : Ext H.length ρ H w ρ H w' := ⟨h4.os, h4.tape, h4.output, h4.size, fun c hc _ => hold c hc, fun c hc => .inl hc, fun id o hid ho => ⟨o, ho, by
          cases o with
          | var cs => exact .var cs cs rfl rfl
          | arr g e1 sz els => exact .arr g e1 sz els els rfl rfl (fun hne cur e2 hcur => ⟨cur, by rw [hold _ (hh.lt ⟨id, _, ho, hne, rfl⟩)]; exact hcur, rfl⟩)
          | loop st1 pend1 T1 ps1 asg1 body1 => exact .loop st1 st1 pend1 pend1 T1 ps1 asg1 body1 rfl
          | dead => exact .dead⟩⟩
        refine ⟨.ret (.bool b), H, ρ, ⟨rfl, rfl⟩, ?_, ?_, hext⟩
        · cases e <;> simp only [endIs] at h2 ⊢
          cases h2
          exact .bool b
        · refine ⟨hh.inj, ?_, ?_, ?_⟩
          · intro id cs ho
            obtain ⟨cur, e1, g1, g2, g3⟩ := hh.var id cs ho
            exact ⟨cur, e1, by rw [hold _ (hh.lt ⟨id, _, ho, trivial, rfl⟩)]; exact g1, g2, fun k x hk => ⟨(g3 k x hk).1, (g3 k x hk).2.mono hext⟩⟩
          · intro id g e1 sz els ho
            obtain ⟨g1, g2⟩ := hh.arr id g e1 sz els ho
            refine ⟨g1, fun hne => ?_⟩
            obtain ⟨cur, cap, k1, k2, k3, k4, k5⟩ := g2 hne
            exact ⟨cur, cap, by rw [hold _ (hh.lt ⟨id, _, ho, hne, rfl⟩)]; exact k1, k2, k3, k4, fun k x hk => ⟨(k5 k x hk).1, (k5 k x hk).2.mono hext⟩⟩
          · intro id st pend T ps asg body ho
            obtain ⟨fn, D, tmps, k1, k2, k3⟩ := hh.loop id st pend T ps asg body ho
            exact ⟨fn, D, tmps, by rw [hold _ (hh.lt ⟨id, _, ho, trivial, rfl⟩)]; exact k1, k2, fun k x hk => (k3 k x hk).mono hext⟩
      have ha0 : RepL ρ [] w [] vs := ⟨ha.1, fun k x hk => by simp at hk⟩
      rcases hq ρ w vs ha0 (heapOK_nil ρ w) with ⟨w1, h1, h2, h3⟩ | ⟨v, w', h1, h2⟩
      · exact .inl ⟨w1, h1, h2, h3.mono lift⟩
      · exact .inr ⟨v, w', h1, lift _ _ h2⟩

end Go.Proofs.Ytamoclnnakdiaaa.Abs
