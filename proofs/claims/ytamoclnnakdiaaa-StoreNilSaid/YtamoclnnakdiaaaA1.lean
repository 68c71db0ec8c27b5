/-
  Predicates over abstract states, told over the machine's own: AWP (of code) and ACalls (of calls), with the rules for code's forms.
  Conditions: none.
-/
import Derived.Test.YtamoclnnakdiaaaA0
import Derived.Tactics
import Derived.TacticsIn
import Derived.RangeFuncRecord
import Derived.OrdersIn
namespace Go.Proofs.Ytamoclnnakdiaaa.Abs
open Go Go.RowKit
set_option linter.unusedVariables false
set_option linter.unusedSimpArgs false

/-- A frame's slots and the objects that live. -/
structure AState where
  T : List AV
  H : List AObj

structure Rel (ρ : Nat → Nat) (w : World) (S : AState) (a : Act) : Prop where
  tmps : RepL ρ S.H w S.T a.tmps
  heap : HeapOK ρ S.H w

/-- Every function, every depth; r: the round that the frame is of, if it is one. -/
abbrev FR (r : Option Nat) : Fence := { Fence.wide with round := r }

theorem FR.room (r : Option Nat) (n : Nat) : (FR r).room n := fun _ h => by simp [FR, Fence.wide] at h

theorem FR.none : FR none = Fence.wide := rfl

/-- A mark among the deferred calls: the block for the calls that a loop's rounds defer. -/
def mark (D : Nat) : Deferred := { target := .collected D, args := #[] }

theorem lt_of_aget {α : Type} {l : Array α} {i : Nat} {x : α} (h : l[i]? = some x) : i < l.size := by
  rcases Nat.lt_or_ge i l.size with h' | h'
  · exact h'
  · simp [Array.getElem?_eq_none h'] at h

theorem map_mark {l k : List Nat} (h : l.map mark = k.map mark) : l = k := by
  induction l generalizing k with
  | nil => cases k with
    | nil => rfl
    | cons _ _ => cases h
  | cons a l ih => cases k with
    | nil => cases h
    | cons b k =>
      simp only [List.map_cons, List.cons.injEq, mark, Deferred.mk.injEq, Target.collected.injEq, and_true] at h
      rw [h.1, ih h.2]

/-- The deferred calls have grown by marks of new blocks, and these are empty. -/
def Marks (w : World) (ρ' : Nat → Nat) (H' : List AObj) (w' : World) (ds ds' : List Deferred) : Prop :=
  ∃ Ds : List Nat, ds' = Ds.map mark ++ ds ∧ Ds.Nodup ∧ ∀ D, D ∈ Ds → w.heap.size ≤ D ∧ w'.heap[D]? = some (.deferred (some [])) ∧ ¬ Mu ρ' H' D

theorem Marks.refl (w : World) (ρ' : Nat → Nat) (H' : List AObj) (w' : World) (ds : List Deferred) : Marks w ρ' H' w' ds ds := ⟨[], rfl, .nil, fun D h => by cases h⟩

theorem Marks.keep {m : Nat} {ρ1 ρ2 : Nat → Nat} {H1 H2 : List AObj} {w w1 w2 : World} {ds ds' : List Deferred} (h : Marks w ρ1 H1 w1 ds ds') (he : Ext m ρ1 H1 w1 ρ2 H2 w2) : Marks w ρ2 H2 w2 ds ds' := by
  obtain ⟨Ds, rfl, hn, h2⟩ := h
  refine ⟨Ds, rfl, hn, fun D hD => ?_⟩
  obtain ⟨k1, k2, k3⟩ := h2 D hD
  have hlt := lt_of_aget k2
  exact ⟨k1, (he.mem D hlt k3).trans k2, fun hx => (he.mu D hx).elim k3 (fun hs => by omega)⟩

theorem Marks.trans {m : Nat} {ρ1 ρ2 : Nat → Nat} {H1 H2 : List AObj} {w w1 w2 : World} {ds ds1 ds2 : List Deferred} (h : Marks w ρ1 H1 w1 ds ds1) (he : Ext m ρ1 H1 w1 ρ2 H2 w2) (hs : w.heap.size ≤ w1.heap.size)
    (k : Marks w1 ρ2 H2 w2 ds1 ds2) : Marks w ρ2 H2 w2 ds ds2 := by
  have h' := h.keep he
  obtain ⟨Ds, rfl, hn, h2⟩ := h
  obtain ⟨Ds', hd, hn', h2'⟩ := h'
  obtain rfl : Ds' = Ds := by
    have := List.append_cancel_right hd
    exact (map_mark this).symm
  obtain ⟨Es, rfl, kn, k2⟩ := k
  refine ⟨Es ++ Ds', by simp, ?_, fun D hD => ?_⟩
  · refine List.nodup_append.2 ⟨kn, hn, ?_⟩
    rintro a ha b hb rfl
    have := lt_of_aget (h2 a hb).2.1
    have := (k2 a ha).1
    omega
  · rcases List.mem_append.1 hD with hD | hD
    · obtain ⟨q1, q2, q3⟩ := k2 D hD; exact ⟨by omega, q2, q3⟩
    · exact h2' D hD

/-- How code ends. -/
inductive AExit where
  | normal
  | exit (id : Nat)
  | ret
  | panic (v : AV)

def exitIs (ρ : Nat → Nat) (H : List AObj) (w : World) : AExit → Exit → Prop
  | .normal, .normal => True
  | .exit i, .exit j => i = j
  | .ret, .ret => True
  | .panic x, .panic chain => ∃ v : Value, chain = [{ v := v, recovered := false }] ∧ Rep ρ H w x v
  | _, _ => False

def AExit.andThen (next : AState → Prop) (Q : AExit → AState → Prop) : AExit → AState → Prop
  | .normal, S => next S
  | e, S => Q e S

/-- What the machine comes to when the abstract end is one of Q's. -/
def Lands (m : Nat) (ρ : Nat → Nat) (H : List AObj) (w : World) (ds : List Deferred) (Q : AExit → AState → Prop) (e : Exit) (a' : Act) (w' : World) : Prop :=
  ∃ (x : AExit) (S' : AState) (ρ' : Nat → Nat), Q x S' ∧ exitIs ρ' S'.H w' x e ∧ Rel ρ' w' S' a' ∧ Ext m ρ H w ρ' S'.H w' ∧ Marks w ρ' S'.H w' ds a'.defers

/-- Code, begun in the abstract state S, ends as Q says. Objects below m stay. rd: it may be walked in a round's frame too. -/
def AWP (P : Program) (rd : Bool) (m : Nat) (c : Code) (Q : AExit → AState → Prop) (S : AState) : Prop :=
  ∀ (r : Option Nat), (rd = false → r = none) → ∀ (ρ : Nat → Nat) (w : World) (a : Act), Rel ρ w S a → c.wpIn (FR r) 0 P (Lands m ρ S.H w a.defers Q) a w

theorem Lands.after {m : Nat} {ρ ρ1 : Nat → Nat} {H H1 : List AObj} {w w1 : World} {ds ds1 : List Deferred} {Q : AExit → AState → Prop} {e : Exit} {a' : Act} {w' : World}
    (h : Ext m ρ H w ρ1 H1 w1) (hd : Marks w ρ1 H1 w1 ds ds1) (k : Lands m ρ1 H1 w1 ds1 Q e a' w') : Lands m ρ H w ds Q e a' w' := by
  obtain ⟨x, S', ρ', h1, h2, h3, h4, h5⟩ := k
  exact ⟨x, S', ρ', h1, h2, h3, h.trans h4, hd.trans h4 h.size h5⟩

theorem callsIn_FR {r : Option Nat} {n : Nat} {P : Program} {f : FuncId} {args : Array Value} {w : World} {R : Ending → World → Prop} (h : Calls P f args w R) : CallsIn (FR r) n P f args w R := callsIn_wide.2 h

variable {rd : Bool}

theorem AWP.mono {P : Program} {m : Nat} {c : Code} {Q Q' : AExit → AState → Prop} {S : AState} (h : AWP P rd m c Q S) (hq : ∀ x S', Q x S' → Q' x S') : AWP P rd m c Q' S :=
  fun r hrd ρ w a hr => wpIn_mono (h r hrd ρ w a hr) (fun e a' w' ⟨x, S', ρ', h1, h2, h3, h4, h5⟩ => ⟨x, S', ρ', hq x S' h1, h2, h3, h4, h5⟩)

/-- A state that tells less. -/
def Weak (m : Nat) (S S' : AState) : Prop := ∀ (ρ : Nat → Nat) (w : World) (a : Act), Rel ρ w S a → ∃ ρ' : Nat → Nat, Rel ρ' w S' a ∧ Ext m ρ S.H w ρ' S'.H w

theorem Weak.refl (m : Nat) (S : AState) : Weak m S S := fun ρ w a h => ⟨ρ, h, .refl m ρ S.H w⟩

theorem Weak.trans {m : Nat} {S S' S'' : AState} (h : Weak m S S') (k : Weak m S' S'') : Weak m S S'' := by
  intro ρ w a hr
  obtain ⟨ρ1, r1, e1⟩ := h ρ w a hr
  obtain ⟨ρ2, r2, e2⟩ := k ρ1 w a r1
  exact ⟨ρ2, r2, e1.trans e2⟩

theorem AWP.weak {P : Program} {m : Nat} {c : Code} {Q : AExit → AState → Prop} {S : AState} (S' : AState) (hw : Weak m S S') (h : AWP P rd m c Q S') : AWP P rd m c Q S := by
  intro r hrd ρ w a hr
  obtain ⟨ρ', hr', he⟩ := hw ρ w a hr
  exact wpIn_mono (h r hrd ρ' w a hr') (fun e a' w' hl => hl.after he (.refl _ _ _ _ _))

theorem awp_skip {P : Program} {m : Nat} {Q : AExit → AState → Prop} {S : AState} (h : Q .normal S) : AWP P rd m .skip Q S :=
  fun r hrd ρ w a hr => wpIn_skip ⟨.normal, S, ρ, h, trivial, hr, .refl m ρ S.H w, .refl _ _ _ _ _⟩

theorem awp_label {P : Program} {m l : Nat} {Q : AExit → AState → Prop} {S : AState} (h : Q .normal S) : AWP P rd m (.label l) Q S :=
  fun r hrd ρ w a hr => wpIn_label ⟨.normal, S, ρ, h, trivial, hr, .refl m ρ S.H w, .refl _ _ _ _ _⟩

theorem awp_exit {P : Program} {m id : Nat} {Q : AExit → AState → Prop} {S : AState} (h : Q (.exit id) S) : AWP P rd m (.exit id) Q S :=
  fun r hrd ρ w a hr => wpIn_exit ⟨.exit id, S, ρ, h, rfl, hr, .refl m ρ S.H w, .refl _ _ _ _ _⟩

theorem awp_ret {P : Program} {m : Nat} {Q : AExit → AState → Prop} {S : AState} (h : Q .ret S) : AWP P rd m .ret Q S :=
  fun r hrd ρ w a hr => wpIn_ret ⟨.ret, S, ρ, h, trivial, hr, .refl m ρ S.H w, .refl _ _ _ _ _⟩

theorem awp_seq {P : Program} {m : Nat} {x y : Code} {Q : AExit → AState → Prop} {S : AState} (h : AWP P rd m x (AExit.andThen (AWP P rd m y Q) Q) S) : AWP P rd m (.seq x y) Q S := by
  intro r hrd ρ w a hr
  refine wpIn_seq (wpIn_mono (h r hrd ρ w a hr) ?_)
  rintro e a' w' ⟨xx, S', ρ', h1, h2, h3, h4, h5⟩
  cases xx with
  | normal =>
    cases e <;> simp only [exitIs] at h2
    exact wpIn_mono (h1 r hrd ρ' w' a' h3) (fun e2 a2 w2 hl => hl.after h4 h5)
  | exit i => cases e <;> simp only [exitIs] at h2; exact ⟨_, S', ρ', h1, h2, h3, h4, h5⟩
  | ret => cases e <;> simp only [exitIs] at h2; exact ⟨_, S', ρ', h1, h2, h3, h4, h5⟩
  | panic v => cases e <;> simp only [exitIs] at h2; exact ⟨_, S', ρ', h1, h2, h3, h4, h5⟩

/-- The same, with what comes behind under a letter. -/
theorem awp_seq_k {P : Program} {m : Nat} {x y : Code} {Q : AExit → AState → Prop} {S : AState}
    (h : ∀ K : AState → Prop, (∀ S', AWP P rd m y Q S' → K S') → AWP P rd m x (AExit.andThen K Q) S) : AWP P rd m (.seq x y) Q S := awp_seq (h _ fun _ h => h)

/-- What an operand is. -/
def cvS : Value → AV
  | .bool b => .bool b
  | .int k n => .int k n
  | .string s => .str s.data.toList
  | .pointer none => .nilp
  | .slice none 0 0 => .nils
  | .nilFunc => .nilf
  | .nilIface => .nili
  | _ => .junk

def cv : Value → AV
  | .agg cs => if cs.all (fun v => v.oneCell') then .agg (cs.toList.map cvS) else .junk
  | v => cvS v

theorem rep_cvS (ρ : Nat → Nat) (H : List AObj) (w : World) (v : Value) : Rep ρ H w (cvS v) v := by
  unfold cvS
  split <;> constructor
  rfl

theorem rep_cv (ρ : Nat → Nat) (H : List AObj) (w : World) (v : Value) : Rep ρ H w (cv v) v := by
  unfold cv
  split
  · rename_i cs
    split
    · rename_i hall
      have hall' := Array.all_eq_true_iff_forall_mem.1 hall
      refine .agg _ cs (by simp) ?_ ?_
      · intro k x hk
        have hk' := lt_of_get hk
        simp only [List.length_map, Array.length_toList] at hk'
        simp only [Array.getD_eq_getD_getElem?, Array.getElem?_eq_getElem hk', Option.getD_some]
        exact hall' _ (Array.getElem_mem hk')
      · intro k x hk
        have hk' := lt_of_get hk
        simp only [List.length_map, Array.length_toList] at hk'
        simp only [List.getElem?_map, Array.getElem?_toList, Array.getElem?_eq_getElem hk', Option.map_some, Option.some.injEq] at hk
        simp only [Array.getD_eq_getD_getElem?, Array.getElem?_eq_getElem hk', Option.getD_some]
        rw [← hk]
        exact rep_cvS ρ H w _
    · exact .junk _
  · exact rep_cvS ρ H w v

/-- The n-th of a row. -/
def look : List AV → Nat → AV
  | [], _ => .junk
  | x :: _, 0 => x
  | _ :: l, n + 1 => look l n

def putT : List AV → Nat → AV → List AV
  | [], _, _ => []
  | _ :: l, 0, v => v :: l
  | x :: l, n + 1, v => x :: putT l n v

theorem look_eq (l : List AV) : ∀ n, look l n = l.getD n .junk := by
  induction l with
  | nil => intro n; rfl
  | cons x l ih =>
    intro n
    cases n with
    | zero => rfl
    | succ n => simp only [look, ih n]; simp [List.getD]

theorem putT_eq (l : List AV) (v : AV) : ∀ n, putT l n v = l.set n v := by
  induction l with
  | nil => intro n; rfl
  | cons x l ih =>
    intro n
    cases n with
    | zero => rfl
    | succ n => simp only [putT, ih n, List.set_cons_succ]

def ev (T : List AV) : Operand → AV
  | .tmp t => look T t
  | .const v => cv v
  | .global _ => .junk
  | .func f => .fn (.func f) [] []

def put (T : List AV) : Option Tmp → AV → List AV
  | some d, v => putT T d v
  | none, _ => T

theorem RepL.look {ρ : Nat → Nat} {H : List AObj} {w : World} {T : List AV} {vs : Array Value} (h : RepL ρ H w T vs) (t : Nat) : Rep ρ H w (look T t) (vs.getD t undef) := by
  rw [look_eq]
  rcases Nat.lt_or_ge t T.length with ht | ht
  · have := h.2 t _ (List.getElem?_eq_getElem ht)
    simpa [List.getD, List.getElem?_eq_getElem ht] using this
  · simp only [List.getD, List.getElem?_eq_none ht, Option.getD_none]
    exact .junk _

theorem rep_ev {ρ : Nat → Nat} {H : List AObj} {w : World} {T : List AV} {a : Act} (h : RepL ρ H w T a.tmps) (x : Operand) : Rep ρ H w (ev T x) (a.eval x) := by
  cases x with
  | tmp t => exact h.look t
  | const v => exact rep_cv ρ H w v
  | global g => exact .junk _
  | func f => exact .fn _ [] [] #[] #[] rfl rfl (by intro k x hk; simp at hk) (by intro k x hk; simp at hk)

theorem repL_put {ρ : Nat → Nat} {H : List AObj} {w : World} {T : List AV} {a : Act} (h : RepL ρ H w T a.tmps) (d : Option Tmp) {x : AV} {v : Value} (hx : Rep ρ H w x v) :
    RepL ρ H w (put T d x) (a.put d v).tmps := by
  cases d with
  | none => exact h
  | some d =>
    simp only [put, putT_eq, Act.put]
    refine ⟨by simp [h.1], ?_⟩
    intro k y hk
    rw [List.getElem?_set] at hk
    simp only [Array.getD_eq_getD_getElem?, Array.getElem?_setIfInBounds]
    by_cases hdk : d = k
    · subst hdk
      simp only [if_true] at hk ⊢
      split at hk
      · rename_i hlt
        simp only [Option.some.injEq] at hk
        subst hk
        rw [if_pos (by rw [h.1]; exact hlt)]
        exact hx
      · cases hk
    · rw [if_neg hdk] at hk ⊢
      have := h.2 k y hk
      simpa [Array.getD_eq_getD_getElem?] using this

theorem awp_cond {P : Program} {m : Nat} {c : Operand} {x y : Code} {Q : AExit → AState → Prop} {S : AState} (t : Bool) (hc : ev S.T c = .bool t)
    (h1 : t = true → AWP P rd m x Q S) (h2 : t = false → AWP P rd m y Q S) : AWP P rd m (.cond c x y) Q S := by
  intro r hrd ρ w a hr
  have hv := rep_ev hr.tmps c
  rw [hc] at hv
  have hb : a.eval c = .bool t := by
    generalize a.eval c = v at hv ⊢
    cases hv
    rfl
  exact wpIn_cond_split hb (fun ht => h1 ht r hrd ρ w a hr) (fun ht => h2 ht r hrd ρ w a hr)

theorem awp_cond_true {P : Program} {m : Nat} {c : Operand} {x y : Code} {Q : AExit → AState → Prop} {S : AState} (hc : ev S.T c = .bool true)
    (h1 : AWP P rd m x Q S) : AWP P rd m (.cond c x y) Q S := awp_cond true hc (fun _ => h1) (fun h => by cases h)

theorem awp_cond_false {P : Program} {m : Nat} {c : Operand} {x y : Code} {Q : AExit → AState → Prop} {S : AState} (hc : ev S.T c = .bool false)
    (h1 : AWP P rd m y Q S) : AWP P rd m (.cond c x y) Q S := awp_cond false hc (fun h => by cases h) (fun _ => h1)

def AExit.inBlock (id : Nat) (Q : AExit → AState → Prop) : AExit → AState → Prop
  | .exit i, S => if i = id then Q .normal S else Q (.exit i) S
  | e, S => Q e S

theorem awp_block {P : Program} {m id : Nat} {c : Code} {Q : AExit → AState → Prop} {S : AState} (h : AWP P rd m c (AExit.inBlock id Q) S) : AWP P rd m (.block id c) Q S := by
  intro r hrd ρ w a hr
  refine wpIn_block (wpIn_mono (h r hrd ρ w a hr) ?_)
  rintro e a' w' ⟨xx, S', ρ', h1, h2, h3, h4, h5⟩
  cases xx with
  | normal => cases e <;> simp only [exitIs] at h2; exact ⟨.normal, S', ρ', h1, trivial, h3, h4, h5⟩
  | exit i =>
    cases e <;> simp only [exitIs] at h2
    subst h2
    simp only [AExit.inBlock] at h1
    simp only [Exit.inBlock]
    split at h1
    · rename_i hi
      rw [if_pos hi]
      exact ⟨.normal, S', ρ', h1, trivial, h3, h4, h5⟩
    · rename_i hi
      rw [if_neg hi]
      exact ⟨.exit i, S', ρ', h1, rfl, h3, h4, h5⟩
  | ret => cases e <;> simp only [exitIs] at h2; exact ⟨.ret, S', ρ', h1, trivial, h3, h4, h5⟩
  | panic v => cases e <;> simp only [exitIs] at h2; exact ⟨.panic v, S', ρ', h1, h2, h3, h4, h5⟩

/-- A loop, with a number that falls, told of the machine. -/
theorem wpIn_loop_n {F : Fence} {P : Program} {Q : Exit → Act → World → Prop} {c : Code} (J : Nat → Act → World → Prop)
    (round : ∀ n a w, J n a w → c.wpIn F 0 P (Exit.then (fun a' w' => ∃ n', n' < n ∧ J n' a' w') Q) a w) : ∀ n a w, J n a w → (Code.loop c).wpIn F 0 P Q a w := by
  intro n a w h0 b k cs hro hb hr
  have key : ∀ n a w, J n a w → ∃ e a' w', Q e a' w' ∧ ArrivesIn (Machine.fenced P F) P (lone (b.atR a (.code c :: .inLoop c :: k)) cs w) b k cs e a' w' := by
    intro n
    induction n using Nat.strongRecOn with
    | _ n ih =>
      intro a w hI
      obtain ⟨e, a₁, w₁, hq, harr⟩ := round n a w hI b (.inLoop c :: k) cs hro hb hr
      cases e with
      | normal =>
        obtain ⟨n', hlt, hI₁⟩ := hq
        obtain ⟨e₂, a₂, w₂, hq₂, harr₂⟩ := ih n' hlt a₁ w₁ hI₁
        exact ⟨e₂, a₂, w₂, hq₂, .of_steps (StepsIn.trans harr (.one (fenced_calm hb hr rfl) stepR_inLoop)) harr₂⟩
      | exit id => exact ⟨_, a₁, w₁, hq, .pass (x := .inLoop c) rfl (fun _ _ => .inl (by simp)) harr⟩
      | goto l => exact ⟨_, a₁, w₁, hq, .pass (x := .inLoop c) rfl (fun _ _ => .inl (by simp)) harr⟩
      | ret => exact ⟨_, a₁, w₁, hq, .pass (x := .inLoop c) rfl (fun _ _ => .inl (by simp)) harr⟩
      | panic ch => exact ⟨_, a₁, w₁, hq, .pass (x := .inLoop c) rfl (fun _ _ => .inl (by simp)) harr⟩
      | outgrown => exact ⟨_, a₁, w₁, hq, .pass (x := .inLoop c) rfl (fun _ _ => .inl (by simp)) harr⟩
  obtain ⟨e, a', w', hq, harr⟩ := key n a w h0
  exact ⟨e, a', w', hq, .of_steps (.one (fenced_calm hb hr rfl) stepR_loop) harr⟩

/-- A loop: I n holds at each round's head (behind forgetting), n falls. -/
theorem awp_loop {P : Program} {m : Nat} {c : Code} {Q : AExit → AState → Prop} {S : AState} (I : Nat → AState → Prop)
    (start : ∃ n S0, Weak m S S0 ∧ I n S0)
    (round : ∀ n S, I n S → AWP P rd m c (AExit.andThen (fun S' => ∃ n', n' < n ∧ ∃ S0, Weak m S' S0 ∧ I n' S0) Q) S) : AWP P rd m (.loop c) Q S := by
  intro r hrd ρ w a hr
  obtain ⟨n, S0, hw, hi⟩ := start
  obtain ⟨ρ0, hr0, he0⟩ := hw ρ w a hr
  refine wpIn_loop_n (fun n a' w' => ∃ S' ρ', I n S' ∧ Rel ρ' w' S' a' ∧ Ext m ρ S.H w ρ' S'.H w' ∧ Marks w ρ' S'.H w' a.defers a'.defers) ?_ n a w ⟨S0, ρ0, hi, hr0, he0, .refl _ _ _ _ _⟩
  rintro n1 a1 w1 ⟨S1, ρ1, hi1, hr1, he1, hd1⟩
  refine wpIn_mono (round n1 S1 hi1 r hrd ρ1 w1 a1 hr1) ?_
  rintro e a2 w2 ⟨xx, S2, ρ2, h1, h2, h3, h4, h5⟩
  have hd2 := hd1.trans h4 he1.size h5
  cases xx with
  | normal =>
    cases e <;> simp only [exitIs] at h2
    obtain ⟨n', hn, S3, hw3, hi3⟩ := h1
    obtain ⟨ρ3, hr3, he3⟩ := hw3 ρ2 w2 a2 h3
    exact ⟨n', hn, S3, ρ3, hi3, hr3, (he1.trans h4).trans he3, hd2.keep he3⟩
  | exit i => cases e <;> simp only [exitIs] at h2; exact ⟨_, S2, ρ2, h1, h2, h3, he1.trans h4, hd2⟩
  | ret => cases e <;> simp only [exitIs] at h2; exact ⟨_, S2, ρ2, h1, h2, h3, he1.trans h4, hd2⟩
  | panic v => cases e <;> simp only [exitIs] at h2; exact ⟨_, S2, ρ2, h1, h2, h3, he1.trans h4, hd2⟩

end Go.Proofs.Ytamoclnnakdiaaa.Abs
