/-
  One operation, a row of operations, regions; calls of functions by what is known of them.
  Conditions: none.
-/
import Derived.Test.YtamoclnnakdiaaaA7
namespace Go.Proofs.Ytamoclnnakdiaaa.Abs
open Go Go.RowKit
set_option linter.unusedVariables false
set_option linter.unusedSimpArgs false

def kBuiltin (P : Program) (b : Builtin) (ts : List TypeId) (args : List AV) (H : List AObj) (K : AV → List AObj → Prop) : Prop :=
  match b, ts, args with
  | .len, [t], [x] => kLen P t H K x
  | .append, [t1, t2], [x, y] => kAppend P t1 t2 H K x y
  | .max, _, [.int k a, .int _ b] => K (.int k (if b > a then b else a)) H
  | .min, _, [.int k a, .int _ b] => K (.int k (if b < a then b else a)) H
  | _, _, _ => False

/-- Is a value no nil for sure? -/
def nonnil : AV → Bool
  | .ptr _ _ => true
  | .eptr _ _ _ _ => true
  | .fptr _ => true
  | .fn (.func _) _ _ => true
  | _ => false

/-- What an operation (no call of a function) yields. -/
def opK (P : Program) (op : Op) (T : List AV) (H : List AObj) (K : AV → List AObj → Prop) : Prop :=
  match op with
  | .move x => K (ev T x) H
  | .assign x => K (ev T x) H
  | .pick c a b =>
    match ev T c with
    | .bool t => K (bif t then ev T a else ev T b) H
    | _ => False
  | .alloc e => kAlloc P e H K
  | .box _ x => kBox (ev T x) H K
  | .build t parts => kBuild P t H K (parts.toList.map fun p => (p.1, ev T p.2))
  | .buildSlice t n parts => kBuildSlice P t n H K (parts.toList.map fun p => (p.1, ev T p.2))
  | .load t x => kLoad P t H K (ev T x)
  | .store t p x => kStore P t H (ev T x) (fun H' => K .junk H') (ev T p)
  | .binOp op t x y _ => if isNilS y = true then kNilS P op t H K (ev T x) else kBin P op t H K (ev T x) (ev T y)
  | .unOp op _ x => kUn op H K (ev T x)
  | .convert s d x => kConv P s d H K (ev T x)
  | .makeInterface t x => kMkIface P t H K (ev T x)
  | .makeFunc f first cap => K (.fn f (first.toList.map (ev T)) (cap.toList.map (ev T))) H
  | .slice t x lo hi mx => kSlice P t H K (ev T x) (lo.map (ev T)) (hi.map (ev T)) (mx.map (ev T))
  | .fieldAddr s x f => kFieldAddr P s f H K (ev T x)
  | .field s x f => kField P s f H K (ev T x)
  | .indexAddr t x i => kIndexAddr P t H K (ev T x) (ev T i)
  | .index t x i => kIndex P t H K (ev T x) (ev T i)
  | .extract x i => kExtract i H K (ev T x)
  | .nilCheck x => nonnil (ev T x) = true ∧ K (ev T x) H
  | .call { callee := .builtin b, args := args, argTypes := ts } => kBuiltin P b ts.toList (args.toList.map (ev T)) H K
  | _ => False

/-- What an operation of the machine comes to. -/
def YieldO (P : Program) (s : Sem Next) (ρ : Nat → Nat) (H : List AObj) (w : World) (K : AV → List AObj → Prop) : Prop :=
  ∃ (v : Value) (r : Next) (w' : World) (x : AV) (H' : List AObj) (ρ' : Nat → Nat), s.run P w = .ok r w' ∧ (r = .value v ∨ (r = .skip ∧ v = undef)) ∧ K x H' ∧ Rep ρ' H' w' x v ∧ HeapOK ρ' H' w' ∧ Ext H.length ρ H w ρ' H' w'

theorem Yield.toO {P : Program} {s : Sem Value} {ρ : Nat → Nat} {H : List AObj} {w : World} {K : AV → List AObj → Prop} (h : Yield P s ρ H w K) :
    YieldO P (do let v ← s; Pure.pure (Next.value v)) ρ H w K := by
  obtain ⟨v, w', x, H', ρ', h1, h2, h3, h4, h5⟩ := h
  exact ⟨v, .value v, w', x, H', ρ', by simp [h1], .inl rfl, h2, h3, h4, h5⟩

theorem opt_map {T : List AV} {a : Act} {ρ : Nat → Nat} {H : List AObj} {w : World} (hT : RepL ρ H w T a.tmps) (o : Option Operand) :
    (∀ x, o.map (ev T) = some x → ∃ v, o.map a.eval = some v ∧ Rep ρ H w x v) ∧ (o.map (ev T) = none → o.map a.eval = none) := by
  cases o with
  | none => exact ⟨fun x h => (by cases h), fun _ => rfl⟩
  | some o => exact ⟨fun x h => by cases h; exact ⟨_, rfl, rep_ev hT o⟩, fun h => (by cases h)⟩

theorem Rep.inv_bool' {ρ : Nat → Nat} {H : List AObj} {w : World} {T : List AV} {a : Act} (hT : RepL ρ H w T a.tmps) {c : Operand} {t : Bool} (h : ev T c = .bool t) : a.eval c = .bool t := by
  have hv := rep_ev hT c
  rw [h] at hv
  exact hv.inv_bool

theorem one_of_map {α β : Type} {f : α → β} {l : List α} {x : β} (h : l.map f = [x]) : ∃ a, l = [a] ∧ f a = x := by
  match l with
  | [] => simp at h
  | [a] => exact ⟨a, rfl, by simpa using h⟩
  | _ :: _ :: _ => simp at h

theorem two_of_map {α β : Type} {f : α → β} {l : List α} {x y : β} (h : l.map f = [x, y]) : ∃ a b, l = [a, b] ∧ f a = x ∧ f b = y := by
  match l with
  | [] => simp at h
  | [_] => simp at h
  | [a, b] => exact ⟨a, b, rfl, by simp at h; exact h.1, by simp at h; exact h.2⟩
  | _ :: _ :: _ :: _ => simp at h

theorem opK_sound {P : Program} {o : Oper} {T : List AV} {H : List AObj} {K : AV → List AObj → Prop} {ρ : Nat → Nat} {w : World} {a : Act}
    (h : opK P o.op T H K) (hT : RepL ρ H w T a.tmps) (hh : HeapOK ρ H w) : YieldO P (execOp a.eval o) ρ H w K := by
  obtain ⟨dst, op, ty, pos, after, guard⟩ := o
  simp only at h
  unfold execOp
  cases op <;> simp only [opK] at h <;> try (exact h.elim)
  case move x => exact ⟨_, _, w, _, H, ρ, rfl, .inl rfl, h, rep_ev hT x, hh, .refl _ ρ H w⟩
  case assign x => exact ⟨_, _, w, _, H, ρ, rfl, .inl rfl, h, rep_ev hT x, hh, .refl _ ρ H w⟩
  case pick c x y =>
    split at h
    · rename_i t hc
      have hb := Rep.inv_bool' hT hc
      refine ⟨if t then a.eval x else a.eval y, _, w, _, H, ρ, by simp only [hb, asBool, Sem.run_bind, Sem.run_pure, Result.andThen_ok], .inl rfl, h, ?_, hh, .refl _ ρ H w⟩
      cases t
      · exact rep_ev hT y
      · exact rep_ev hT x
    · exact h.elim
  case nilCheck x =>
    obtain ⟨h1, h2⟩ := h
    have hr := rep_ev hT x
    refine ⟨a.eval x, .value (a.eval x), w, ev T x, H, ρ, ?_, .inl rfl, h2, hr, hh, .refl _ ρ H w⟩
    generalize hx : ev T x = y at h1 hr
    generalize hv : a.eval x = v at hr
    cases hr with
    | ptr => simp [hv]
    | eptr => simp [hv]
    | eptr_stale => simp [hv]
    | fptr => simp [hv]
    | fn f first cap vf vc _ _ _ _ =>
      cases f with
      | func g => simp [hv]
      | _ => simp [nonnil] at h1
    | _ => simp [nonnil] at h1
  case alloc e => exact (kAlloc_sound h hh).toO
  case box e x => exact (kBox_sound h (rep_ev hT x) hh).toO
  case build t parts => exact (kBuild_sound parts h hT hh).toO
  case buildSlice t n parts => exact (kBuildSlice_sound parts h hT hh).toO
  case load t x => exact (kLoad_sound h (rep_ev hT x) hh).toO
  case store t p x =>
    obtain ⟨w', H', ρ', h1, h2, h3, h4⟩ := kStore_sound h (rep_ev hT x) (rep_ev hT p) hh
    exact ⟨undef, .skip, w', .junk, H', ρ', by simp [h1], .inr ⟨rfl, rfl⟩, h2, .junk _, h3, h4⟩
  case binOp op t x y yt =>
    split at h
    · rename_i hn
      have hy : a.eval y = .slice none 0 0 := by
        unfold isNilS at hn
        split at hn
        · rfl
        · cases hn
      have := (kNilS_sound x y h (rep_ev hT x) hh).toO
      rw [← hy] at this
      exact this
    · exact (kBin_sound x y h (rep_ev hT x) (rep_ev hT y) hh).toO
  case unOp op t x => exact (kUn_sound h (rep_ev hT x) hh).toO
  case convert s d x => exact (kConv_sound h (rep_ev hT x) hh).toO
  case makeInterface t x => exact (kMkIface_sound h (rep_ev hT x) hh).toO
  case makeFunc f first cap =>
    obtain ⟨h1, h2⟩ := repL_map hT first
    obtain ⟨h3, h4⟩ := repL_map hT cap
    exact ⟨_, _, w, _, H, ρ, rfl, .inl rfl, h, .fn f _ _ _ _ h1 h3 h2 h4, hh, .refl _ ρ H w⟩
  case slice t x lo hi mx =>
    obtain ⟨l1, l2⟩ := opt_map hT lo
    obtain ⟨h1, h2⟩ := opt_map hT hi
    obtain ⟨m1, m2⟩ := opt_map hT mx
    exact (kSlice_sound h (rep_ev hT x) l1 l2 h1 h2 m1 m2 hh).toO
  case fieldAddr s x f => exact (kFieldAddr_sound h (rep_ev hT x) hh).toO
  case field s x f => exact (kField_sound h (rep_ev hT x) hh).toO
  case indexAddr t x i => exact (kIndexAddr_sound h (rep_ev hT x) (rep_ev hT i) hh).toO
  case index t x i => exact (kIndex_sound h (rep_ev hT x) (rep_ev hT i) hh).toO
  case extract x i => exact (kExtract_sound h (rep_ev hT x) hh).toO
  case call c =>
    obtain ⟨callee, args, ts⟩ := c
    cases callee <;> simp only at h <;> try (exact h.elim)
    rename_i b
    unfold kBuiltin at h
    have hargs : args = args.toList.toArray := by simp
    have hts : ts = ts.toList.toArray := by simp
    split at h
    · rename_i t x ht hx
      obtain ⟨ox, hox, rfl⟩ := one_of_map hx
      rw [hox] at hargs
      rw [ht] at hts
      subst hargs hts
      have := (kLen_sound (ty := ty) h (rep_ev hT ox) hh).toO
      simpa [resolve, invoke, builtin] using this
    · rename_i t1 t2 x y ht hx
      obtain ⟨ox, oy, hox, rfl, rfl⟩ := two_of_map hx
      rw [hox] at hargs
      rw [ht] at hts
      subst hargs hts
      have := (kAppend_sound (ty := ty) h (rep_ev hT ox) (rep_ev hT oy) hh).toO
      simpa [resolve, invoke, builtin] using this
    · rename_i k x k' y hx
      obtain ⟨ox, oy, hox, hx1, hx2⟩ := two_of_map hx
      have e1 := rep_ev hT ox
      have e2 := rep_ev hT oy
      rw [hx1] at e1
      rw [hx2] at e2
      rw [hox] at hargs
      subst hargs
      refine ⟨_, _, w, _, H, ρ, ?_, .inl rfl, h, .int k _, hh, .refl _ ρ H w⟩
      simp [resolve, invoke, builtin, e1.inv_int, e2.inv_int, Builtin.max_, Builtin.max2]
    · rename_i k x k' y hx
      obtain ⟨ox, oy, hox, hx1, hx2⟩ := two_of_map hx
      have e1 := rep_ev hT ox
      have e2 := rep_ev hT oy
      rw [hx1] at e1
      rw [hx2] at e2
      rw [hox] at hargs
      subst hargs
      refine ⟨_, _, w, _, H, ρ, ?_, .inl rfl, h, .int k _, hh, .refl _ ρ H w⟩
      simp [resolve, invoke, builtin, e1.inv_int, e2.inv_int, Builtin.min_, Builtin.min2]
    · exact h.elim

/-! ## calls -/
/-- What becomes of a call, at the operation that makes it: entered, or done by a row of the machine's own. -/
def ACallF (P : Program) (f : FuncId) (args : List AV) (H : List AObj) (Q : AEnd → List AObj → Prop) : Prop :=
  ∀ (ρ : Nat → Nat) (w : World) (vs : Array Value), RepL ρ H w args vs → HeapOK ρ H w →
    (∃ w1, (callFunc f vs).run P w = .ok (.enter f vs) w1 ∧ w1 = w ∧ Calls P f vs w (LandsC ρ H w Q)) ∨
    (∃ v w', (callFunc f vs).run P w = .ok (.value v) w' ∧ LandsC ρ H w Q (.returned v) w')

/-- Has a function a body (and is it no function of the runtime's own)? -/
def hb (P : Program) (f : FuncId) : Bool :=
  match P.funcs[f]? with
  | some fn => fn.body.isSome && !(fn.name == "runtime.NumGoroutine")
  | none => false

theorem run_callFunc {P : Program} {f : FuncId} (h : hb P f = true) (vs : Array Value) (w : World) : (callFunc f vs).run P w = .ok (.enter f vs) w := by
  unfold hb at h
  split at h
  · rename_i fn hf
    simp only [Bool.and_eq_true, Bool.not_eq_true'] at h
    obtain ⟨h1, h2⟩ := h
    have h2' : fn.name ≠ "runtime.NumGoroutine" := by simpa using h2
    have h3 : fn.body ≠ none := by cases hb : fn.body <;> simp_all
    simp [callFunc, hf, h2', h3]
  · cases h

theorem ACallF.of {P : Program} {f : FuncId} {args : List AV} {H : List AObj} {Q : AEnd → List AObj → Prop} (hf : hb P f = true) (h : ACalls P f args H Q) : ACallF P f args H Q :=
  fun ρ w vs ha hh => .inl ⟨w, run_callFunc hf vs w, rfl, h ρ w vs ha hh⟩

theorem LandsC.mono {ρ : Nat → Nat} {H : List AObj} {w : World} {Q Q' : AEnd → List AObj → Prop} {e : Ending} {w' : World} (h : LandsC ρ H w Q e w') (hq : ∀ x H', Q x H' → Q' x H') : LandsC ρ H w Q' e w' := by
  obtain ⟨x, H', ρ', h1, h2, h3, h4⟩ := h
  exact ⟨x, H', ρ', hq x H' h1, h2, h3, h4⟩

theorem ACallF.mono {P : Program} {f : FuncId} {args : List AV} {H : List AObj} {Q Q' : AEnd → List AObj → Prop} (h : ACallF P f args H Q) (hq : ∀ x H', Q x H' → Q' x H') : ACallF P f args H Q' := by
  intro ρ w vs ha hh
  rcases h ρ w vs ha hh with ⟨w1, h1, h2, h3⟩ | ⟨v, w', h1, h2⟩
  · exact .inl ⟨w1, h1, h2, h3.mono fun e w' hl => hl.mono hq⟩
  · exact .inr ⟨v, w', h1, h2.mono hq⟩

/-- The call gives v, and no object is made or turned. -/
def QuietF (P : Program) (f : FuncId) (args : List AV) (H : List AObj) (v : AV) : Prop := ACallF P f args H (fun x H' => x = .ret v ∧ H' = H)

/-- How a call's end goes on. -/
def onEnd (K : AV → List AObj → Prop) (X : AV → List AObj → Prop) : AEnd → List AObj → Prop
  | .ret v, H => K v H
  | .panic v, H => X v H

theorem ACallF.quiet {P : Program} {f : FuncId} {args : List AV} {H : List AObj} {v : AV} {K X : AV → List AObj → Prop} (h : QuietF P f args H v) (hk : K v H) : ACallF P f args H (onEnd K X) :=
  h.mono (fun x H' ⟨h1, h2⟩ => by subst h1 h2; exact hk)

/-! ## rows of operations -/
/-- Is an operation carried out? none: it is not known. -/
def wantedA (ops : Array Oper) (T : List AV) (o : Oper) : Option Bool :=
  match o.guard with
  | none => some true
  | some (j, want) =>
    match (ops[j]?).bind (·.dst) with
    | some d =>
      match look T d with
      | .bool b => some (b == want)
      | .tuple [] => some false
      | _ => none
    | none => some false

/-- A call of the yield of the loop at id: its round. -/
def ACallY (P : Program) (id : Nat) (args : List AV) (H : List AObj) (R : AEnd → List AObj → Prop) : Prop :=
  hget H id ≠ some .dead ∧ ∀ (ρ : Nat → Nat) (w : World) (vs : Array Value), RepL ρ H w args vs → HeapOK ρ H w →
    ∃ (f : FuncId) (tmps : Array Value) (asg body : Code), (Instr.yield (ρ id) vs).run P w = .ok (.round (ρ id) f tmps asg body) w ∧ RoundIn Fence.wide 0 P (ρ id) f tmps asg body w (LandsC ρ H w R)

theorem ACallY.mono {P : Program} {id : Nat} {args : List AV} {H : List AObj} {R R' : AEnd → List AObj → Prop} (h : ACallY P id args H R) (hq : ∀ x H', R x H' → R' x H') : ACallY P id args H R' := by
  refine ⟨h.1, fun ρ w vs ha hh => ?_⟩
  obtain ⟨f, tmps, asg, body, h1, h2⟩ := h.2 ρ w vs ha hh
  exact ⟨f, tmps, asg, body, h1, RoundIn.mono h2 (fun e w' ⟨x, H', ρ', k1, k2, k3, k4⟩ => ⟨x, H', ρ', hq x H' k1, k2, k3, k4⟩)⟩

/-- What is called: a function, or the yield of the loop at id. -/
inductive Gn where
  | f (n : FuncId)
  | y (id : Nat)

def ACallG (P : Program) (g : Gn) (args : List AV) (H : List AObj) (R : AEnd → List AObj → Prop) : Prop :=
  match g with
  | .f g => ACallF P g args H R
  | .y id => ACallY P id args H R

theorem ACallG.mono {P : Program} {g : Gn} {args : List AV} {H : List AObj} {R R' : AEnd → List AObj → Prop} (h : ACallG P g args H R) (hq : ∀ x H', R x H' → R' x H') : ACallG P g args H R' := by
  cases g with
  | f g => exact ACallF.mono h hq
  | y id => exact ACallY.mono h hq

def QuietG (P : Program) (g : Gn) (args : List AV) (H : List AObj) (v : AV) : Prop := ACallG P g args H (fun x H' => x = .ret v ∧ H' = H)

theorem ACallG.quiet {P : Program} {g : Gn} {args : List AV} {H : List AObj} {v : AV} {K X : AV → List AObj → Prop} (h : QuietG P g args H v) (hk : K v H) : ACallG P g args H (onEnd K X) :=
  ACallG.mono h (fun x H' ⟨h1, h2⟩ => by subst h1 h2; exact hk)

/-- One operation, a call of a function too; X: what is asked where it panics. -/
def oneK (P : Program) (o : Oper) (T : List AV) (H : List AObj) (K : AV → List AObj → Prop) (X : AV → List AObj → Prop) : Prop :=
  match o.op with
  | .call { callee := .value f, args := args, argTypes := _ } =>
    match ev T f with
    | .fn (.func g) first cap => ACallF P g (first ++ args.toList.map (ev T) ++ cap) H (onEnd K X)
    | .yfn id => ACallY P id (args.toList.map (ev T)) H (onEnd K X)
    | _ => False
  | op => opK P op T H K

def guardK (w : Option Bool) (A B : Prop) : Prop :=
  match w with
  | some true => A
  | some false => B
  | none => False

/-- Operations one behind the other. -/
def opsK (P : Program) (ops : Array Oper) (X : List AV → AV → List AObj → Prop) (K : List AV → List AObj → Prop) : List Oper → List AV → List AObj → Prop
  | [], T, H => K T H
  | o :: os, T, H => guardK (wantedA ops T o) (oneK P o T H (fun v H' => opsK P ops X K os (put T o.dst v) H') (X T)) (opsK P ops X K os (put T o.dst (.tuple [])) H)

theorem wanted_of {ops : Array Oper} {T : List AV} {a : Act} {ρ : Nat → Nat} {H : List AObj} {w : World} (hT : RepL ρ H w T a.tmps) {o : Oper} {b : Bool} (h : wantedA ops T o = some b) :
    Region.wanted o (yielded ops a.tmps) = b := by
  unfold wantedA at h
  unfold Region.wanted
  split at h
  · rename_i hg
    cases h
    rw [hg]
  · rename_i j want hg
    rw [hg]
    simp only []
    unfold yielded
    split at h
    · rename_i d hd
      rw [hd]
      simp only [Option.bind_some]
      have hl := hT.look d
      split at h
      · rename_i b' hb
        rw [hb] at hl
        have hv := hl.inv_bool
        cases h
        have hlt : d < a.tmps.size := by
          rcases Nat.lt_or_ge d a.tmps.size with h' | h'
          · exact h'
          · exfalso
            simp [Array.getD_eq_getD_getElem?, Array.getElem?_eq_none h', undef] at hv
        have hg2 : a.tmps[d]? = some (.bool b') := by
          rw [← hv]
          simp [hlt]
        rw [hg2]
        cases b' <;> cases want <;> rfl
      · rename_i hb
        rw [hb] at hl
        cases h
        have hv : a.tmps.getD d undef = .tuple #[] := by
          generalize a.tmps.getD d undef = v at hl ⊢
          cases hl with
          | tuple _ vs h1 h2 =>
            have : vs = #[] := Array.eq_empty_of_size_eq_zero (by simpa using h1)
            rw [this]
        cases hq : a.tmps[d]? with
        | none => rfl
        | some v =>
          rw [Array.getD_eq_getD_getElem?, hq] at hv
          simp only [Option.getD_some] at hv
          subst hv
          rfl
      · cases h
    · rename_i hd
      cases h
      rw [hd]
      rfl

theorem Act.put_defers' (a : Act) (d : Option Tmp) (v : Value) : (a.put d v).defers = a.defers := by cases d <;> rfl

theorem rep_undef (ρ : Nat → Nat) (H : List AObj) (w : World) : Rep ρ H w (.tuple []) undef := .tuple [] #[] rfl (by intro k x hk; simp at hk)

/-- One operation of the machine, by what its abstract twin says. -/
theorem oneK_sound {P : Program} {o : Oper} {T : List AV} {H : List AObj} {K X : AV → List AObj → Prop} {ρ : Nat → Nat} {w : World} {a : Act} {next : Act → World → Prop} {Q : Exit → Act → World → Prop} {r : Option Nat}
    (h : oneK P o T H K X) (hT : RepL ρ H w T a.tmps) (hh : HeapOK ρ H w)
    (hk : ∀ (v : Value) (w' : World) (x : AV) (H' : List AObj) (ρ' : Nat → Nat), K x H' → Rep ρ' H' w' x v → HeapOK ρ' H' w' → Ext H.length ρ H w ρ' H' w' → next (a.put o.dst v) w')
    (hx : ∀ (v : Value) (w' : World) (x : AV) (H' : List AObj) (ρ' : Nat → Nat), X x H' → Rep ρ' H' w' x v → HeapOK ρ' H' w' → Ext H.length ρ H w ρ' H' w' → Q (.panic [{ v := v, recovered := false }]) a w') :
    o.wpIn (FR r) 0 P a w next Q := by
  refine ⟨fun _ _ => trivial, ?_⟩
  unfold oneK at h
  split at h
  · rename_i f args ts hop
    split at h
    · rename_i g first cap hf
      have hfe := rep_ev hT f
      rw [hf] at hfe
      obtain ⟨hm1, hm2⟩ := repL_map hT args
      generalize hfv : a.eval f = fv at hfe
      cases hfe with
      | fn _ _ _ vf vc f1 f2 f3 f4 =>
        have hargs : RepL ρ H w (first ++ args.toList.map (ev T) ++ cap) (vf ++ args.map a.eval ++ vc) := by
          refine ⟨by simp [f1, f2], ?_⟩
          intro k x hk
          simp only [Array.getD_eq_getD_getElem?]
          by_cases hk1 : k < (first ++ args.toList.map (ev T)).length
          · rw [List.getElem?_append_left hk1] at hk
            rw [Array.getElem?_append_left (by simpa [f1] using hk1)]
            by_cases hk2 : k < first.length
            · rw [List.getElem?_append_left hk2] at hk
              rw [Array.getElem?_append_left (by omega)]
              have := f3 k x hk
              rwa [Array.getD_eq_getD_getElem?] at this
            · rw [List.getElem?_append_right (by omega)] at hk
              rw [Array.getElem?_append_right (by omega), f1]
              have := hm2 _ x hk
              rwa [Array.getD_eq_getD_getElem?] at this
          · rw [List.getElem?_append_right (by omega)] at hk
            rw [Array.getElem?_append_right (by simp [f1] at hk1 ⊢; omega)]
            have := f4 _ x hk
            rw [Array.getD_eq_getD_getElem?] at this
            simpa [f1] using this
        have hsem : o.semAt (FR r).round a.eval = execOp a.eval o := Oper.semAt_eq _ _ _ (fun c hc => by rw [hop] at hc; cases hc)
        rw [hsem]
        have hexec : ∀ r w', (callFunc g (vf ++ args.map a.eval ++ vc)).run P w = .ok r w' → (execOp a.eval o).run P w = .ok r w' := by
          intro r w' hr
          unfold execOp
          rw [hop]
          simp only [Sem.run_bind, resolve, hfv, Deferred.ofValue, Sem.run_pure, Result.andThen_ok, invoke]
          exact hr
        rcases h ρ w _ hargs hh with ⟨w1, h1, rfl, h3⟩ | ⟨v, w', h1, h2⟩
        · rw [hexec _ _ h1, Oper.uponIn_enter]
          refine ⟨fun hx => (by cases hx), CallsIn.mono (callsIn_FR h3) ?_⟩
          rintro e w' ⟨x, H', ρ', q1, q2, q3, q4⟩
          cases x with
          | ret x =>
            cases e <;> simp only [endIs] at q2
            exact hk _ w' x H' ρ' q1 q2 q3 q4
          | panic x =>
            cases e <;> simp only [endIs] at q2
            obtain ⟨v, rfl, hv⟩ := q2
            exact hx v w' x H' ρ' q1 hv q3 q4
        · rw [hexec _ _ h1, Oper.uponIn_value]
          obtain ⟨x, H', ρ', q1, q2, q3, q4⟩ := h2
          cases x with
          | ret x => simp only [endIs] at q2; exact hk _ w' x H' ρ' q1 q2 q3 q4
          | panic x => simp only [endIs] at q2
    · rename_i id hf
      obtain ⟨hdead, h⟩ := h
      have hfe := rep_ev hT f
      rw [hf] at hfe
      have hm := repL_map hT args
      generalize hfv : a.eval f = fv at hfe
      cases hfe with
      | yfn_stale _ _ hd => exact absurd hd hdead
      | yfn _ st pend T1 ps asg body hl =>
        have hsem : o.semAt (FR r).round a.eval = execOp a.eval o := Oper.semAt_eq _ _ _ (fun c hc => by rw [hop] at hc; cases hc)
        rw [hsem]
        obtain ⟨f1, tmps, asg1, body1, h1, h2⟩ := h ρ w _ hm hh
        have hexec : (execOp a.eval o).run P w = .ok (.round (ρ id) f1 tmps asg1 body1) w := by
          unfold execOp
          rw [hop]
          simp only [Sem.run_bind, resolve, hfv, Deferred.ofValue, Sem.run_pure, Result.andThen_ok, invoke, Array.empty_append, Array.append_empty]
          exact h1
        rw [hexec, Oper.uponIn_round]
        refine ⟨fun hx => (by cases hx), RoundIn.mono (R := LandsC ρ H w (onEnd K X)) h2 ?_⟩
        rintro e w' ⟨x, H', ρ', q1, q2, q3, q4⟩
        cases x with
        | ret x =>
          cases e <;> simp only [endIs] at q2
          exact hk _ w' x H' ρ' q1 q2 q3 q4
        | panic x =>
          cases e <;> simp only [endIs] at q2
          obtain ⟨v, rfl, hv⟩ := q2
          exact hx v w' x H' ρ' q1 hv q3 q4
    · exact h.elim
  · rename_i hop
    have hsem : o.semAt (FR r).round a.eval = execOp a.eval o := Oper.semAt_eq _ _ _ (fun c hc => by rw [hc] at h; exact h.elim)
    rw [hsem]
    obtain ⟨v, r, w', x, H', ρ', h1, h2, h3, h4, h5, h6⟩ := opK_sound h hT hh
    rw [h1]
    rcases h2 with rfl | ⟨rfl, rfl⟩
    · rw [Oper.uponIn_value]; exact hk v w' x H' ρ' h3 h4 h5 h6
    · rw [Oper.uponIn_skip]; exact hk undef w' x H' ρ' h3 h4 h5 h6

/-- What is asked of a panic within operations. -/
def onPanic (Q : AExit → AState → Prop) (T : List AV) (v : AV) (H : List AObj) : Prop := Q (.panic v) ⟨T, H⟩

theorem opsK_sound {P : Program} {ops : Array Oper} {m : Nat} {Q : AExit → AState → Prop} {ρ0 : Nat → Nat} {H0 : List AObj} {w0 : World} {d0 : List Deferred} {r : Option Nat} : ∀ (l : List Oper) (i : Nat) (T : List AV) (H : List AObj) (ρ : Nat → Nat) (w : World) (a : Act),
    ops.toList.drop i = l → opsK P ops (onPanic Q) (fun T H => Q .normal ⟨T, H⟩) l T H → Rel ρ w ⟨T, H⟩ a → Ext m ρ0 H0 w0 ρ H w → m ≤ H.length → Marks w0 ρ H w d0 a.defers →
    wpOpsIn (FR r) 0 P ops (Lands m ρ0 H0 w0 d0 Q) (List.range' i l.length) a w := by
  intro l
  induction l with
  | nil =>
    intro i T H ρ w a hl h hr he hm hd
    simp only [List.length_nil, List.range'_zero, wpOpsIn]
    exact ⟨.normal, ⟨T, H⟩, ρ, h, trivial, hr, he, hd⟩
  | cons o os ih =>
    intro i T H ρ w a hl h hr he hm hd
    have hoi : ops[i]? = some o := by
      have : (ops.toList.drop i)[0]? = some o := by rw [hl]; rfl
      rw [List.getElem?_drop] at this
      simpa using this
    have hos : ops.toList.drop (i + 1) = os := by
      have : (ops.toList.drop i).drop 1 = os := by rw [hl]; rfl
      rwa [List.drop_drop] at this
    simp only [List.length_cons, List.range'_succ, wpOpsIn, hoi]
    simp only [opsK] at h
    have hrel : ∀ (v : Value) (w' : World) (x : AV) (H' : List AObj) (ρ' : Nat → Nat), Rep ρ' H' w' x v → HeapOK ρ' H' w' → Ext H.length ρ H w ρ' H' w' → Rel ρ' w' ⟨put T o.dst x, H'⟩ (a.put o.dst v) := by
      intro v w' x H' ρ' h1 h2 h3
      exact ⟨repL_put (hr.tmps.mono h3) o.dst h1, h2⟩
    cases hw : wantedA ops T o with
    | none => rw [hw] at h; exact h.elim
    | some b =>
      rw [hw] at h
      have hwant := wanted_of (w := w) hr.tmps hw
      cases b with
      | true =>
        simp only [guardK] at h
        rw [if_pos hwant]
        refine oneK_sound h hr.tmps hr.heap ?_ ?_
        · intro v w' x H' ρ' k1 k2 k3 k4
          have hlen : H.length ≤ H'.length := by
            rcases Nat.eq_zero_or_pos H.length with h0 | h0
            · omega
            · obtain ⟨o', ho', _⟩ := k4.obj (H.length - 1) _ (by omega) (List.getElem?_eq_getElem (by omega))
              have := lt_of_get ho'
              omega
          exact ih (i + 1) _ H' ρ' w' _ hos k1 (hrel v w' x H' ρ' k2 k3 k4) (he.trans (k4.mono hm)) (Nat.le_trans hm hlen) (by rw [Act.put_defers']; exact hd.keep k4)
        · intro v w' x H' ρ' k1 k2 k3 k4
          exact ⟨.panic x, ⟨T, H'⟩, ρ', k1, ⟨v, rfl, k2⟩, ⟨hr.tmps.mono k4, k3⟩, he.trans (k4.mono hm), hd.keep k4⟩
      | false =>
        simp only [guardK] at h
        rw [if_neg (by rw [hwant]; simp)]
        exact ⟨fun _ _ => trivial, ih (i + 1) _ H ρ w _ hos h (hrel undef w (.tuple []) H ρ (rep_undef ρ H w) hr.heap (.refl _ ρ H w)) he hm (by rw [Act.put_defers']; exact hd)⟩

theorem awp_region {rd : Bool} {P : Program} {m id : Nat} {ops : Array Oper} {Q : AExit → AState → Prop} {S : AState} (hm : m ≤ S.H.length)
    (h : opsK P ops (onPanic Q) (fun T H => Q .normal ⟨T, H⟩) ops.toList S.T S.H) : AWP P rd m (.region id ops false) Q S := by
  intro r hrd ρ w a hr
  refine wpIn_region ?_
  have := opsK_sound (m := m) (Q := Q) (r := r) (d0 := a.defers) (ρ0 := ρ) (H0 := S.H) (w0 := w) ops.toList 0 S.T S.H ρ w a rfl h hr (.refl m ρ S.H w) hm (.refl _ _ _ _ _)
  rwa [Array.length_toList, ← List.range_eq_range'] at this

end Go.Proofs.Ytamoclnnakdiaaa.Abs
