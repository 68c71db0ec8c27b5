/-
  Calls that read live objects: what holds of the call with what they hold, by value, holds of the call with them.
  Conditions: none.
-/
import Derived.Test.YtamoclnnakdiaaaA19
import Derived.Test.YtamoclnnakdiaaaA15
namespace Go.Proofs.Ytamoclnnakdiaaa.Abs
open Go Go.RowKit
set_option linter.unusedVariables false

/-- A value that names no memory but objects from n on. -/
inductive Plain (n : Nat) : AV → Prop where
  | bool (b : Bool) : Plain n (.bool b)
  | int (k : IntKind) (i : Int) : Plain n (.int k i)
  | str (s : List UInt8) : Plain n (.str s)
  | nilp : Plain n .nilp
  | nils : Plain n .nils
  | nilc : Plain n .nilc
  | nilf : Plain n .nilf
  | nili : Plain n .nili
  | emp : Plain n (.fz [])
  | ptr (id off : Nat) : n ≤ id → Plain n (.ptr id off)
  | sl (id g off len : Nat) : n ≤ id → Plain n (.sl id g off len)
  | agg (cs : List AV) : (∀ x, x ∈ cs → Plain n x) → Plain n (.agg cs)
  | tuple (cs : List AV) : (∀ x, x ∈ cs → Plain n x) → Plain n (.tuple cs)
  | junk : Plain n .junk

@[simp] theorem plain_bool (n : Nat) (b : Bool) : Plain n (.bool b) ↔ True := ⟨fun _ => trivial, fun _ => .bool b⟩
@[simp] theorem plain_int (n : Nat) (k : IntKind) (i : Int) : Plain n (.int k i) ↔ True := ⟨fun _ => trivial, fun _ => .int k i⟩
@[simp] theorem plain_str (n : Nat) (s : List UInt8) : Plain n (.str s) ↔ True := ⟨fun _ => trivial, fun _ => .str s⟩
@[simp] theorem plain_nilp (n : Nat) : Plain n .nilp ↔ True := ⟨fun _ => trivial, fun _ => .nilp⟩
@[simp] theorem plain_nilc (n : Nat) : Plain n .nilc ↔ True := ⟨fun _ => trivial, fun _ => .nilc⟩
@[simp] theorem plain_nils (n : Nat) : Plain n .nils ↔ True := ⟨fun _ => trivial, fun _ => .nils⟩
@[simp] theorem plain_emp (n : Nat) : Plain n (.fz []) ↔ True := ⟨fun _ => trivial, fun _ => .emp⟩
@[simp] theorem plain_ptr (n id off : Nat) : Plain n (.ptr id off) ↔ n ≤ id := ⟨fun h => by cases h; assumption, .ptr id off⟩
@[simp] theorem plain_sl (n id g off len : Nat) : Plain n (.sl id g off len) ↔ n ≤ id := ⟨fun h => by cases h; assumption, .sl id g off len⟩
@[simp] theorem plain_agg (n : Nat) (cs : List AV) : Plain n (.agg cs) ↔ ∀ x, x ∈ cs → Plain n x := ⟨fun h => by cases h; assumption, .agg cs⟩
@[simp] theorem plain_tuple (n : Nat) (cs : List AV) : Plain n (.tuple cs) ↔ ∀ x, x ∈ cs → Plain n x := ⟨fun h => by cases h; assumption, .tuple cs⟩

/-- Where the objects lie: those below n as before. -/
def mixR (n : Nat) (ρ ρ' : Nat → Nat) : Nat → Nat := fun i => if i < n then ρ i else ρ' i

theorem mixR_lt {n i : Nat} {ρ ρ' : Nat → Nat} (h : i < n) : mixR n ρ ρ' i = ρ i := by unfold mixR; rw [if_pos h]
theorem mixR_ge {n i : Nat} {ρ ρ' : Nat → Nat} (h : n ≤ i) : mixR n ρ ρ' i = ρ' i := by unfold mixR; rw [if_neg (by omega)]

def deads (n : Nat) : List AObj := List.replicate n .dead
theorem deads_len (n : Nat) : (deads n).length = n := by simp [deads]
theorem deads_get {n : Nat} {id : Nat} {o : AObj} (h : (deads n)[id]? = some o) : o = .dead := by
  unfold deads at h
  rw [List.getElem?_replicate] at h
  split at h <;> cases h
  rfl
theorem not_mu_deads (ρ : Nat → Nat) (n b : Nat) : ¬ Mu ρ (deads n) b := by
  rintro ⟨id, o, h1, h2, _⟩
  rw [deads_get h1] at h2
  exact h2.elim
theorem heapOK_deads (ρ : Nat → Nat) (n : Nat) (w : World) : HeapOK ρ (deads n) w := by
  refine ⟨?_, ?_, ?_, fun id st pend T1 ps asg body h => by have := deads_get h; cases this⟩
  · intro i j o p hi hol _ _ _
    rw [deads_get hi] at hol
    exact hol.elim
  · intro id cs h
    have := deads_get h
    cases this
  · intro id g e sz els h
    have := deads_get h
    cases this

theorem up_get {n : Nat} {H L : List AObj} (hn : H.length = n) {id : Nat} {o : AObj} (hid : n ≤ id) (h : (deads n ++ L)[id]? = some o) : (H ++ L)[id]? = some o := by
  rw [List.getElem?_append_right (by rw [deads_len]; exact hid), deads_len] at h
  rw [List.getElem?_append_right (by omega), hn]
  exact h

theorem Rep.plain {ρ ρ' : Nat → Nat} {H L : List AObj} {n : Nat} (hn : H.length = n) {w : World} {x : AV} (hp : Plain n x) : ∀ {v : Value}, Rep ρ' (deads n ++ L) w x v → Rep (mixR n ρ ρ') (H ++ L) w x v := by
  have stale : ∀ (id g : Nat), n ≤ id → Stale (deads n ++ L) id g → Stale (H ++ L) id g := fun id g hid hs => by
    rcases hs with ⟨g', e, sz, els, h1, h2⟩ | h1
    · exact .inl ⟨g', e, sz, els, up_get hn hid h1, h2⟩
    · exact .inr (up_get hn hid h1)
  induction hp with
  | bool b => intro v h; cases h; exact .bool b
  | int k i => intro v h; cases h; exact .int k i
  | str s => intro v h; cases h with | str _ b h1 => exact .str s b h1
  | nilp => intro v h; cases h; exact .nilp
  | nils => intro v h; cases h; exact .nils
  | nilc => intro v h; cases h with | nilc a => exact .nilc a
  | nilf => intro v h; cases h; exact .nilf
  | nili => intro v h; cases h; exact .nili
  | emp =>
    intro v h
    cases h with
    | fz_emp a c => exact .fz_emp a c
    | fz _ sz a c vals h1 h2 h3 h4 h5 h6 h7 h8 => exact .fz_emp _ _
  | ptr id off hid =>
    intro v h
    cases h with
    | ptr _ _ cs h1 => rw [← mixR_ge (ρ := ρ) (ρ' := ρ') hid]; exact .ptr id off cs (up_get hn hid h1)
  | sl id g off len hid =>
    intro v h
    have hr := mixR_ge (ρ := ρ) (ρ' := ρ') hid
    cases h with
    | sl _ _ _ _ e sz els cap cur h1 h2 h3 h4 h5 h6 h7 => rw [← hr]; exact .sl id g off len e sz els cap cur (up_get hn hid h1) h2 h3 h4 h5 (by rw [hr]; exact h6) h7
    | sl_emp _ _ e sz a h1 => exact .sl_emp id g e sz a (up_get hn hid h1)
    | sl_stale _ _ _ _ a m c hs => exact .sl_stale id g off len a m c (stale id g hid hs)
  | agg cs _ ih =>
    intro v h
    cases h with
    | agg _ vs h1 h2 h3 => exact .agg cs vs h1 h2 (fun k x hk => ih x (List.mem_of_getElem? hk) (h3 k x hk))
  | tuple cs _ ih =>
    intro v h
    cases h with
    | tuple _ vs h1 h3 => exact .tuple cs vs h1 (fun k x hk => ih x (List.mem_of_getElem? hk) (h3 k x hk))
  | junk => intro v h; exact .junk v

def PlainO (n : Nat) : AObj → Prop
  | .var cs => ∀ x, x ∈ cs → Plain n x
  | .arr _ _ _ els => ∀ x, x ∈ els → Plain n x
  | .loop _ _ _ _ _ _ => False
  | .dead => True

theorem plain_cells {n : Nat} {x : AV} (h : Plain n x) : ∀ y, y ∈ x.cells → Plain n y := by
  intro y hy
  cases x <;> simp only [AV.cells, List.mem_singleton] at hy <;> first | (subst hy; exact h) | exact (plain_agg _ _).1 h y hy

/-- Old memory is as it was: what lay there lies there still. -/
theorem ext_keep {ρ ρ' : Nat → Nat} {H L : List AObj} {w w' : World} (hh : HeapOK ρ H w) (he : Ext (deads H.length).length ρ (deads H.length) w ρ' (deads H.length ++ L) w') :
    Ext H.length ρ H w (mixR H.length ρ ρ') (H ++ L) w' := by
  refine ⟨he.os, he.tape, he.output, he.size, fun b hb _ => he.mem b hb (not_mu_deads ρ _ b), ?_, ?_⟩
  · rintro b ⟨id, o, h1, h2, rfl⟩
    rcases Nat.lt_or_ge id H.length with hl | hl
    · rw [List.getElem?_append_left hl] at h1
      rw [mixR_lt hl]
      exact .inl ⟨id, o, h1, h2, rfl⟩
    · rw [List.getElem?_append_right hl] at h1
      rw [mixR_ge hl]
      refine .inr ?_
      rcases he.mu (ρ' id) ⟨id, o, by rw [List.getElem?_append_right (by rw [deads_len]; exact hl), deads_len]; exact h1, h2, rfl⟩ with h | h
      · exact absurd h (not_mu_deads ρ _ _)
      · exact h
  · intro id o hid ho
    refine ⟨o, by rw [List.getElem?_append_left hid]; exact ho, ?_⟩
    have hr := mixR_lt (ρ := ρ) (ρ' := ρ') hid
    cases o with
    | var cs => exact .var cs cs rfl hr
    | arr g e sz els =>
      refine .arr g e sz els els rfl hr (fun hne cur e1 h1 => ⟨cur, ?_, rfl⟩)
      rw [he.mem _ (hh.lt ⟨id, _, ho, hne, rfl⟩) (not_mu_deads ρ _ _)]
      exact h1
    | loop st pend T1 ps asg body => exact .loop st st pend pend T1 ps asg body hr
    | dead => exact .dead

theorem heapOK_keep {ρ ρ' : Nat → Nat} {H L : List AObj} {w w' : World} (hh : HeapOK ρ H w) (hL : ∀ o, o ∈ L → PlainO H.length o) (h2 : HeapOK ρ' (deads H.length ++ L) w')
    (he : Ext (deads H.length).length ρ (deads H.length) w ρ' (deads H.length ++ L) w') : HeapOK (mixR H.length ρ ρ') (H ++ L) w' := by
  have hext := ext_keep hh he
  have hm : ∀ b, b < w.heap.size → w'.heap[b]? = w.heap[b]? := fun b hb => he.mem b hb (not_mu_deads ρ _ b)
  have hup : ∀ (id : Nat) (o : AObj), H.length ≤ id → (H ++ L)[id]? = some o → (deads H.length ++ L)[id]? = some o := fun id o hid h => by
    rw [List.getElem?_append_right hid] at h
    rw [List.getElem?_append_right (by rw [deads_len]; exact hid), deads_len]
    exact h
  have hpl : ∀ (id : Nat) (o : AObj), H.length ≤ id → (H ++ L)[id]? = some o → PlainO H.length o := fun id o hid h => by
    rw [List.getElem?_append_right hid] at h
    exact hL o (List.mem_of_getElem? h)
  have fresh : ∀ (id : Nat) (o : AObj), H.length ≤ id → (H ++ L)[id]? = some o → o.live → w.heap.size ≤ ρ' id := fun id o hid h hl => by
    rcases he.mu (ρ' id) ⟨id, o, hup id o hid h, hl, rfl⟩ with h | h
    · exact absurd h (not_mu_deads ρ _ _)
    · exact h
  refine ⟨?_, ?_, ?_, ?_⟩
  · intro i j o p hi hol hj hpl' hij
    rcases Nat.lt_or_ge i H.length with hil | hil
    · have hi' := hi
      rw [List.getElem?_append_left hil] at hi'
      rw [mixR_lt hil] at hij
      have hlt := hh.lt ⟨i, o, hi', hol, rfl⟩
      rcases Nat.lt_or_ge j H.length with hjl | hjl
      · rw [List.getElem?_append_left hjl] at hj
        rw [mixR_lt hjl] at hij
        exact hh.inj i j o p hi' hol hj hpl' hij
      · rw [mixR_ge hjl] at hij
        have := fresh j p hjl hj hpl'
        omega
    · rw [mixR_ge hil] at hij
      rcases Nat.lt_or_ge j H.length with hjl | hjl
      · have hj' := hj
        rw [List.getElem?_append_left hjl] at hj'
        rw [mixR_lt hjl] at hij
        have hlt := hh.lt ⟨j, p, hj', hpl', rfl⟩
        have := fresh i o hil hi hol
        omega
      · rw [mixR_ge hjl] at hij
        exact h2.inj i j o p (hup i o hil hi) hol (hup j p hjl hj) hpl' hij
  · intro id cs hid
    rcases Nat.lt_or_ge id H.length with hl | hl
    · rw [List.getElem?_append_left hl] at hid
      obtain ⟨cur, e, h3, h4, h5⟩ := hh.var id cs hid
      rw [mixR_lt hl]
      exact ⟨cur, e, by rw [hm _ (hh.lt ⟨id, _, hid, trivial, rfl⟩)]; exact h3, h4, fun k x hk => ⟨(h5 k x hk).1, (h5 k x hk).2.mono hext⟩⟩
    · obtain ⟨cur, e, h3, h4, h5⟩ := h2.var id cs (hup id _ hl hid)
      rw [mixR_ge hl]
      exact ⟨cur, e, h3, h4, fun k x hk => ⟨(h5 k x hk).1, Rep.plain rfl (hpl id _ hl hid x (List.mem_of_getElem? hk)) (h5 k x hk).2⟩⟩
  · intro id g e sz els hid
    rcases Nat.lt_or_ge id H.length with hl | hl
    · rw [List.getElem?_append_left hl] at hid
      obtain ⟨h3, h4⟩ := hh.arr id g e sz els hid
      refine ⟨h3, fun hne => ?_⟩
      obtain ⟨cur, cap, h5, h6, h7, h8, h9⟩ := h4 hne
      rw [mixR_lt hl]
      exact ⟨cur, cap, by rw [hm _ (hh.lt ⟨id, _, hid, hne, rfl⟩)]; exact h5, h6, h7, h8, fun k x hk => ⟨(h9 k x hk).1, (h9 k x hk).2.mono hext⟩⟩
    · obtain ⟨h3, h4⟩ := h2.arr id g e sz els (hup id _ hl hid)
      refine ⟨h3, fun hne => ?_⟩
      obtain ⟨cur, cap, h5, h6, h7, h8, h9⟩ := h4 hne
      rw [mixR_ge hl]
      refine ⟨cur, cap, h5, h6, h7, h8, fun k x hk => ⟨(h9 k x hk).1, Rep.plain rfl ?_ (h9 k x hk).2⟩⟩
      obtain ⟨y, hy, hxy⟩ := List.mem_flatMap.1 (List.mem_of_getElem? hk)
      exact plain_cells (hpl id _ hl hid y hy) x hxy
  · intro id st pend T1 ps asg body hid
    rcases Nat.lt_or_ge id H.length with hl | hl
    · rw [List.getElem?_append_left hl] at hid
      obtain ⟨fn, D, tmps, h3, h4, h5⟩ := hh.loop id st pend T1 ps asg body hid
      rw [mixR_lt hl]
      exact ⟨fn, D, tmps, by rw [hm _ (hh.lt ⟨id, _, hid, trivial, rfl⟩)]; exact h3, h4, fun k x hk => (h5 k x hk).mono hext⟩
    · exact (hpl id _ hl hid).elim

/-- A call that hands out new objects, with what it reads by value: the same with live arguments. -/
theorem NewF.thaw {P : Program} {f : FuncId} {args args' : List AV} {H L : List AObj} {v : AV} (h : NewF P f args' (deads H.length) v L) (hA : DfzL 0 H args args') (hv : Plain H.length v) (hL : ∀ o, o ∈ L → PlainO H.length o) : NewF P f args H v L := by
  intro ρ w vs ha hh
  have ha' : RepL ρ (deads H.length) w args' vs := by
    obtain ⟨h1, h2⟩ := hA.spec
    refine ⟨ha.1.trans h1.symm, fun k y hk => ?_⟩
    have hk' := lt_of_get hk
    have hx : args[k]? = some args[k] := List.getElem?_eq_getElem (by omega)
    have h3 : Rep ρ [] w y (vs.getD k undef) := Dfz.rep (H := []) (L := H) (by simpa using hh) (by simpa using h2 k _ y hx hk) (by simpa using ha.2 k _ hx)
    have he : Ext ([] : List AObj).length ρ [] w ρ (deads H.length) w := by
      refine ⟨rfl, rfl, rfl, Nat.le_refl _, fun _ _ _ => rfl, fun b hb => absurd hb (not_mu_deads ρ _ b), fun id o hid ho => by simp at ho⟩
    exact h3.mono he
  have one : ∀ (x : AEnd) (H' : List AObj) (ρ' : Nat → Nat) (e : Ending) (w' : World), (x = .ret v ∧ H' = deads H.length ++ L) → endIs ρ' H' w' x e → HeapOK ρ' H' w' → Ext (deads H.length).length ρ (deads H.length) w ρ' H' w' → LandsC ρ H w (fun x H' => x = .ret v ∧ H' = H ++ L) e w' := by
    rintro x H' ρ' e w' ⟨rfl, rfl⟩ h2 h3 h4
    refine ⟨.ret v, H ++ L, mixR H.length ρ ρ', ⟨rfl, rfl⟩, ?_, heapOK_keep hh hL h3 h4, ext_keep hh h4⟩
    cases e with
    | returned c =>
      have h2' : Rep ρ' (deads H.length ++ L) w' v c := h2
      exact (Rep.plain rfl hv h2' : Rep (mixR H.length ρ ρ') (H ++ L) w' v c)
    | panicked c => exact h2.elim
    | _ => exact h2.elim
  rcases h ρ w vs ha' (heapOK_deads ρ _ w) with ⟨w1, h1, h2, h3⟩ | ⟨c, w', h1, x, H', ρ', h2, h3, h4, h5⟩
  · exact .inl ⟨w1, h1, h2, h3.mono fun e w' ⟨x, H', ρ', k1, k2, k3, k4⟩ => one x H' ρ' e w' k1 k2 k3 k4⟩
  · exact .inr ⟨c, w', h1, one x H' ρ' _ w' h2 h3 h4 h5⟩

theorem newF_nil {P : Program} {f : FuncId} {args : List AV} {H : List AObj} {v : AV} : NewF P f args H v [] ↔ QuietF P f args H v := by
  unfold NewF QuietF
  rw [List.append_nil]

theorem QuietF.thaw {P : Program} {f : FuncId} {args args' : List AV} {H : List AObj} {v : AV} (h : ∀ H', QuietF P f args' H' v) (hA : DfzL 0 H args args') (hv : Plain H.length v) : QuietF P f args H v :=
  newF_nil.1 (NewF.thaw (newF_nil.2 (h _)) hA hv (fun o ho => by simp at ho))

end Go.Proofs.Ytamoclnnakdiaaa.Abs
