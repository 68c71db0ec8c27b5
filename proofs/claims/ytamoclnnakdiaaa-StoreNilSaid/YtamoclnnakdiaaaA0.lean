/-
  The abstract values and the abstract heap: what a value of the machine stands for, and how a heap of live objects lies in memory.
  Conditions: none; definitions and the law that what is told of old memory stays told (Rep_mono).
-/
import Derived.Below
import Derived.Orders
import Derived.Laws.AppendOwn
import Derived.Laws.StructEq
import Derived.Laws.Build
import Derived.Laws.Alloc2
namespace Go.Proofs.Ytamoclnnakdiaaa.Abs
open Go Go.RowKit
set_option linter.unusedVariables false
set_option linter.unusedSimpArgs false

/-- Abstract values: by value where nothing writes any more (agg, fz, fptr), by a name where an object is live (ptr, eptr, sl). -/
inductive AV where
  | bool (b : Bool)
  | int (k : IntKind) (n : Int)
  | str (s : List UInt8)
  | nilp
  | ptr (id off : Nat)
  | eptr (id g i off : Nat)
  | fptr (cells : List AV)
  | nils
  | nilc
  | fz (xs : List AV)
  | sl (id g off len : Nat)
  | fn (f : Fn) (first cap : List AV)
  | nilf
  | iface (t : TypeId) (v : AV)
  | nili
  | agg (cells : List AV)
  | tuple (vs : List AV)
  | yfn (id : Nat)
  | junk

/-- The cells of a value. -/
def AV.cells : AV → List AV
  | .agg cs => cs
  | v => [v]

/-- All cells of a row of elements. -/
def flat (xs : List AV) : List AV := xs.flatMap AV.cells

/-- Objects that may still change: a variable of fixed cells; an array (g: how often it grew; e: its elements' type; sz: an element's cells); one that is gone. -/
inductive AObj where
  | var (cells : List AV)
  | arr (g : Nat) (e : TypeId) (sz : Nat) (els : List AV)
  | loop (st : LoopState) (pend : Option Code) (T : List AV) (ps : Array Tmp) (asg body : Code)
  | dead

/-- Has an object a block of its own? -/
def AObj.live : AObj → Prop
  | .var _ => True
  | .arr _ _ _ els => els ≠ []
  | .loop _ _ _ _ _ _ => True
  | .dead => False

/-- Blocks that may be written: those of live objects. -/
def Mu (ρ : Nat → Nat) (H : List AObj) (b : Nat) : Prop := ∃ (id : Nat) (o : AObj), H[id]? = some o ∧ o.live ∧ ρ id = b

/-- Is a reference to an array an old one? -/
def Stale (H : List AObj) (id g : Nat) : Prop := (∃ (g' : Nat) (e : TypeId) (sz : Nat) (els : List AV), H[id]? = some (.arr g' e sz els) ∧ g < g') ∨ H[id]? = some .dead

/-- What a machine's value stands for. -/
inductive Rep (ρ : Nat → Nat) (H : List AObj) (w : World) : AV → Value → Prop where
  | bool (b : Bool) : Rep ρ H w (.bool b) (.bool b)
  | int (k : IntKind) (n : Int) : Rep ρ H w (.int k n) (.int k n)
  | str (s : List UInt8) (b : ByteArray) : b.data.toList = s → Rep ρ H w (.str s) (.string b)
  | nilp : Rep ρ H w .nilp (.pointer none)
  | ptr (id off : Nat) (cs : List AV) : H[id]? = some (.var cs) → Rep ρ H w (.ptr id off) (.pointer (some ⟨ρ id, off, none⟩))
  | eptr (id g i off : Nat) (e : TypeId) (sz : Nat) (els : List AV) : H[id]? = some (.arr g e sz els) → els ≠ [] → Rep ρ H w (.eptr id g i off) (.pointer (some ⟨ρ id, i * sz + off, none⟩))
  | eptr_stale (id g i off : Nat) (a : Addr) : Stale H id g → Rep ρ H w (.eptr id g i off) (.pointer (some a))
  | fptr (cells : List AV) (a : Addr) (vals : Nat → Value) : a.spot = none → a.block < w.heap.size → ¬ Mu ρ H a.block →
      (∀ (k : Nat) (x : AV), cells[k]? = some x → w.cell? ⟨a.block, a.off + k, none⟩ = some (vals k)) →
      (∀ (k : Nat) (x : AV), cells[k]? = some x → (vals k).oneCell' = true) →
      (∀ (k : Nat) (x : AV), cells[k]? = some x → Rep ρ H w x (vals k)) → Rep ρ H w (.fptr cells) (.pointer (some a))
  | nils : Rep ρ H w .nils (.slice none 0 0)
  | nilc (a : Option Addr) : Rep ρ H w .nilc (.slice a 0 0)
  | fz_emp (a : Option Addr) (c : Nat) : Rep ρ H w (.fz []) (.slice a 0 c)
  | fz (xs : List AV) (sz : Nat) (a : Addr) (c : Nat) (vals : Nat → Value) : a.spot = none → a.block < w.heap.size → ¬ Mu ρ H a.block → xs.length ≤ c →
      (∀ x, x ∈ xs → x.cells.length = sz) →
      (∀ (k : Nat) (x : AV), (flat xs)[k]? = some x → w.cell? ⟨a.block, a.off + k, none⟩ = some (vals k)) →
      (∀ (k : Nat) (x : AV), (flat xs)[k]? = some x → (vals k).oneCell' = true) →
      (∀ (k : Nat) (x : AV), (flat xs)[k]? = some x → Rep ρ H w x (vals k)) → Rep ρ H w (.fz xs) (.slice (some a) xs.length c)
  | sl (id g off len : Nat) (e : TypeId) (sz : Nat) (els : List AV) (cap : Nat) (cur : Array Value) : H[id]? = some (.arr g e sz els) → els ≠ [] → off + len ≤ els.length → len ≤ cap → off + cap ≤ maxLen →
      w.heap[ρ id]? = some (.cells cur e (0, 0)) → cur.size = (off + cap) * sz → Rep ρ H w (.sl id g off len) (.slice (some ⟨ρ id, off * sz, none⟩) len cap)
  | sl_emp (id g : Nat) (e : TypeId) (sz : Nat) (a : Option Addr) : H[id]? = some (.arr g e sz []) → Rep ρ H w (.sl id g 0 0) (.slice a 0 0)
  | sl_stale (id g off len : Nat) (a : Option Addr) (n c : Nat) : Stale H id g → Rep ρ H w (.sl id g off len) (.slice a n c)
  | fn (f : Fn) (first cap : List AV) (vf vc : Array Value) : vf.size = first.length → vc.size = cap.length →
      (∀ (k : Nat) (x : AV), first[k]? = some x → Rep ρ H w x (vf.getD k undef)) → (∀ (k : Nat) (x : AV), cap[k]? = some x → Rep ρ H w x (vc.getD k undef)) → Rep ρ H w (.fn f first cap) (.func f vf vc)
  | nilf : Rep ρ H w .nilf .nilFunc
  | iface (t : TypeId) (x : AV) (v : Value) : Rep ρ H w x v → Rep ρ H w (.iface t x) (.iface t v)
  | nili : Rep ρ H w .nili .nilIface
  | agg (cells : List AV) (vs : Array Value) : vs.size = cells.length → (∀ (k : Nat) (x : AV), cells[k]? = some x → (vs.getD k undef).oneCell' = true) →
      (∀ (k : Nat) (x : AV), cells[k]? = some x → Rep ρ H w x (vs.getD k undef)) → Rep ρ H w (.agg cells) (.agg vs)
  | tuple (xs : List AV) (vs : Array Value) : vs.size = xs.length → (∀ (k : Nat) (x : AV), xs[k]? = some x → Rep ρ H w x (vs.getD k undef)) → Rep ρ H w (.tuple xs) (.tuple vs)
  | yfn (id : Nat) (st : LoopState) (pend : Option Code) (T : List AV) (ps : Array Tmp) (asg body : Code) : H[id]? = some (.loop st pend T ps asg body) → Rep ρ H w (.yfn id) (.func (.yield (ρ id)) #[] #[])
  | yfn_stale (id : Nat) (v : Value) : H[id]? = some .dead → Rep ρ H w (.yfn id) v
  | junk (v : Value) : Rep ρ H w .junk v

/-- A live object's block holds what the abstract heap says. -/
structure HeapOK (ρ : Nat → Nat) (H : List AObj) (w : World) : Prop where
  inj : ∀ (i j : Nat) (o p : AObj), H[i]? = some o → o.live → H[j]? = some p → p.live → ρ i = ρ j → i = j
  var : ∀ (id : Nat) (cs : List AV), H[id]? = some (.var cs) → ∃ (cur : Array Value) (e : TypeId), w.heap[ρ id]? = some (.cells cur e (0, 0)) ∧ cur.size = cs.length ∧
    ∀ (k : Nat) (x : AV), cs[k]? = some x → (cur.getD k undef).oneCell' = true ∧ Rep ρ H w x (cur.getD k undef)
  arr : ∀ (id g : Nat) (e : TypeId) (sz : Nat) (els : List AV), H[id]? = some (.arr g e sz els) → (∀ x, x ∈ els → x.cells.length = sz) ∧ (els ≠ [] →
    ∃ (cur : Array Value) (cap : Nat), w.heap[ρ id]? = some (.cells cur e (0, 0)) ∧ els.length ≤ cap ∧ cap ≤ maxLen ∧ cur.size = cap * sz ∧
      ∀ (k : Nat) (x : AV), (flat els)[k]? = some x → (cur.getD k undef).oneCell' = true ∧ Rep ρ H w x (cur.getD k undef))
  loop : ∀ (id : Nat) (st : LoopState) (pend : Option Code) (T : List AV) (ps : Array Tmp) (asg body : Code), H[id]? = some (.loop st pend T ps asg body) →
    ∃ (fn D : Nat) (tmps : Array Value), w.heap[ρ id]? = some (.loop { state := st, pending := pend, fn := fn, tmps := tmps, params := ps, assign := asg, body := body, defers := D }) ∧ tmps.size = T.length ∧
      ∀ (k : Nat) (x : AV), T[k]? = some x → Rep ρ H w x (tmps.getD k undef)

/-- A block of cells keeps its type and its size. -/
def SameShape (w w' : World) (b : Nat) : Prop := ∀ (cur : Array Value) (e : TypeId), w.heap[b]? = some (.cells cur e (0, 0)) → ∃ cur' : Array Value, w'.heap[b]? = some (.cells cur' e (0, 0)) ∧ cur'.size = cur.size

/-- What may become of an object: a variable stays one; an array stays as long as it was, or has grown, or is gone. -/
inductive ObjExt (ρ : Nat → Nat) (w : World) (ρ' : Nat → Nat) (w' : World) (id : Nat) : AObj → AObj → Prop where
  | var (cs cs' : List AV) : cs'.length = cs.length → ρ' id = ρ id → ObjExt ρ w ρ' w' id (.var cs) (.var cs')
  | arr (g : Nat) (e : TypeId) (sz : Nat) (els els' : List AV) : els'.length = els.length → ρ' id = ρ id → (els ≠ [] → SameShape w w' (ρ id)) → ObjExt ρ w ρ' w' id (.arr g e sz els) (.arr g e sz els')
  | grown (g g' : Nat) (e e' : TypeId) (sz sz' : Nat) (els els' : List AV) : g < g' → ObjExt ρ w ρ' w' id (.arr g e sz els) (.arr g' e' sz' els')
  | died (g : Nat) (e : TypeId) (sz : Nat) (els : List AV) : ObjExt ρ w ρ' w' id (.arr g e sz els) .dead
  | loop (st st' : LoopState) (pend pend' : Option Code) (T : List AV) (ps : Array Tmp) (asg body : Code) : ρ' id = ρ id → ObjExt ρ w ρ' w' id (.loop st pend T ps asg body) (.loop st' pend' T ps asg body)
  | left (st : LoopState) (pend : Option Code) (T : List AV) (ps : Array Tmp) (asg body : Code) : ObjExt ρ w ρ' w' id (.loop st pend T ps asg body) .dead
  | dead : ObjExt ρ w ρ' w' id .dead .dead

/-- From one moment to a later one: objects below m are still there; what was not live has not turned. -/
structure Ext (m : Nat) (ρ : Nat → Nat) (H : List AObj) (w : World) (ρ' : Nat → Nat) (H' : List AObj) (w' : World) : Prop where
  os : w'.os = w.os
  tape : w'.tape = w.tape
  output : w'.output = w.output
  size : w.heap.size ≤ w'.heap.size
  mem : ∀ (b : Nat), b < w.heap.size → ¬ Mu ρ H b → w'.heap[b]? = w.heap[b]?
  mu : ∀ (b : Nat), Mu ρ' H' b → Mu ρ H b ∨ w.heap.size ≤ b
  obj : ∀ (id : Nat) (o : AObj), id < m → H[id]? = some o → ∃ o' : AObj, H'[id]? = some o' ∧ ObjExt ρ w ρ' w' id o o'

theorem SameShape.refl (w : World) (b : Nat) : SameShape w w b := fun cur _ h => ⟨cur, h, rfl⟩

theorem SameShape.trans {w w' w'' : World} {b : Nat} (h : SameShape w w' b) (k : SameShape w' w'' b) : SameShape w w'' b := by
  intro cur e hc
  obtain ⟨c1, h1, s1⟩ := h cur e hc
  obtain ⟨c2, h2, s2⟩ := k c1 e h1
  exact ⟨c2, h2, s2.trans s1⟩

theorem ObjExt.refl (ρ : Nat → Nat) (w : World) (id : Nat) (o : AObj) : ObjExt ρ w ρ w id o o := by
  cases o with
  | var cs => exact .var cs cs rfl rfl
  | arr g e sz els => exact .arr g e sz els els rfl rfl (fun _ => SameShape.refl w _)
  | loop st pend T ps asg body => exact .loop st st pend pend T ps asg body rfl
  | dead => exact .dead

theorem ObjExt.trans {ρ ρ' ρ'' : Nat → Nat} {w w' w'' : World} {id : Nat} {o o' o'' : AObj} (h : ObjExt ρ w ρ' w' id o o') (k : ObjExt ρ' w' ρ'' w'' id o' o'') :
    ObjExt ρ w ρ'' w'' id o o'' := by
  cases h with
  | var cs cs' h1 h2 =>
    cases k with
    | var _ cs'' k1 k2 => exact .var cs cs'' (k1.trans h1) (k2.trans h2)
  | arr g e sz els els' h1 h2 h3 =>
    cases k with
    | arr _ _ _ _ els'' k1 k2 k3 => exact .arr g e sz els els'' (k1.trans h1) (k2.trans h2) (fun hne => (h3 hne).trans (h2 ▸ k3 (fun hx => hne (by subst hx; exact List.eq_nil_of_length_eq_zero (by simpa using h1.symm)))))
    | grown _ g' _ e' _ sz' _ els'' k1 => exact .grown g g' e e' sz sz' els els'' k1
    | died => exact .died g e sz els
  | grown g g' e e' sz sz' els els' h1 =>
    cases k with
    | arr _ _ _ _ els'' k1 k2 k3 => exact .grown g g' e e' sz sz' els els'' h1
    | grown _ g'' _ e'' _ sz'' _ els'' k1 => exact .grown g g'' e e'' sz sz'' els els'' (Nat.lt_trans h1 k1)
    | died => exact .died g e sz els
  | died g e sz els =>
    cases k with
    | dead => exact .died g e sz els
  | loop st st' pend pend' T ps asg body h1 =>
    cases k with
    | loop _ st'' _ pend'' _ _ _ _ k1 => exact .loop st st'' pend pend'' T ps asg body (k1.trans h1)
    | left => exact .left st pend T ps asg body
  | left st pend T ps asg body =>
    cases k with
    | dead => exact .left st pend T ps asg body
  | dead =>
    cases k with
    | dead => exact .dead

theorem Ext.refl (m : Nat) (ρ : Nat → Nat) (H : List AObj) (w : World) : Ext m ρ H w ρ H w :=
  ⟨rfl, rfl, rfl, Nat.le_refl _, fun _ _ _ => rfl, fun _ h => .inl h, fun id o _ h => ⟨o, h, .refl ρ w id o⟩⟩

theorem Ext.trans {m : Nat} {ρ ρ' ρ'' : Nat → Nat} {H H' H'' : List AObj} {w w' w'' : World} (h : Ext m ρ H w ρ' H' w') (k : Ext m ρ' H' w' ρ'' H'' w'') :
    Ext m ρ H w ρ'' H'' w'' := by
  refine ⟨k.os.trans h.os, k.tape.trans h.tape, k.output.trans h.output, Nat.le_trans h.size k.size, ?_, ?_, ?_⟩
  · intro b hb hm
    have hm' : ¬ Mu ρ' H' b := fun hx => (h.mu b hx).elim hm (fun hs => by omega)
    have hs := h.size
    exact (k.mem b (by omega) hm').trans (h.mem b hb hm)
  · intro b hb
    rcases k.mu b hb with h1 | h1
    · exact h.mu b h1
    · have hs := h.size
      exact .inr (by omega)
  · intro id o hid ho
    obtain ⟨o1, h1, e1⟩ := h.obj id o hid ho
    obtain ⟨o2, h2, e2⟩ := k.obj id o1 hid h1
    exact ⟨o2, h2, e1.trans e2⟩

theorem Ext.mono {m m' : Nat} {ρ ρ' : Nat → Nat} {H H' : List AObj} {w w' : World} (h : Ext m ρ H w ρ' H' w') (hm : m' ≤ m) : Ext m' ρ H w ρ' H' w' :=
  ⟨h.os, h.tape, h.output, h.size, h.mem, h.mu, fun id o hid ho => h.obj id o (by omega) ho⟩

theorem lt_of_get {α : Type} {l : List α} {i : Nat} {x : α} (h : l[i]? = some x) : i < l.length := by
  rcases Nat.lt_or_ge i l.length with h' | h'
  · exact h'
  · simp [List.getElem?_eq_none h'] at h

theorem Stale.ext {ρ ρ' : Nat → Nat} {H H' : List AObj} {w w' : World} (h : Ext H.length ρ H w ρ' H' w') {id g : Nat} (hs : Stale H id g) : Stale H' id g := by
  rcases hs with ⟨g', e, sz, els, h1, h2⟩ | h1
  · obtain ⟨o', ho, he⟩ := h.obj id _ (lt_of_get h1) h1
    cases he with
    | arr _ _ _ _ els' k1 k2 k3 => exact .inl ⟨g', e, sz, els', ho, h2⟩
    | grown _ g'' _ e'' _ sz'' _ els'' k1 => exact .inl ⟨g'', e'', sz'', els'', ho, Nat.lt_trans h2 k1⟩
    | died => exact .inr ho
  · obtain ⟨o', ho, he⟩ := h.obj id _ (lt_of_get h1) h1
    cases he
    exact .inr ho

theorem cell_eq {w w' : World} {b : Nat} (h : w'.heap[b]? = w.heap[b]?) (o : Nat) : w'.cell? ⟨b, o, none⟩ = w.cell? ⟨b, o, none⟩ := World.cell?_of_block (w := w) h

/-- What a value stands for, it stands for later on. -/
theorem Rep.mono {ρ ρ' : Nat → Nat} {H H' : List AObj} {w w' : World} (h : Ext H.length ρ H w ρ' H' w') {x : AV} {v : Value} (hr : Rep ρ H w x v) : Rep ρ' H' w' x v := by
  have nomu : ∀ b, b < w.heap.size → ¬ Mu ρ H b → ¬ Mu ρ' H' b := fun b hb hm hx => (h.mu b hx).elim hm (fun hs => by omega)
  induction hr with
  | bool b => exact .bool b
  | int k n => exact .int k n
  | str s b h1 => exact .str s b h1
  | nilp => exact .nilp
  | ptr id off cs h1 =>
    obtain ⟨o', ho, he⟩ := h.obj id _ (lt_of_get h1) h1
    cases he with
    | var _ cs' k1 k2 => rw [← k2]; exact .ptr id off cs' ho
  | eptr id g i off e sz els h1 h2 =>
    obtain ⟨o', ho, he⟩ := h.obj id _ (lt_of_get h1) h1
    cases he with
    | arr _ _ _ _ els' k1 k2 k3 =>
      rw [← k2]
      exact .eptr id g i off e sz els' ho (fun hx => h2 (by subst hx; exact List.eq_nil_of_length_eq_zero (by simpa using k1.symm)))
    | grown _ g' _ e' _ sz' _ els' k1 => exact .eptr_stale id g i off _ (.inl ⟨g', e', sz', els', ho, k1⟩)
    | died => exact .eptr_stale id g i off _ (.inr ho)
  | eptr_stale id g i off a hs => exact .eptr_stale id g i off a (hs.ext h)
  | fptr cells a vals h1 h2 h3 h4 h5 h6 ih =>
    exact .fptr cells a vals h1 (Nat.lt_of_lt_of_le h2 h.size) (nomu _ h2 h3) (fun k x hk => by rw [cell_eq (h.mem _ h2 h3)]; exact h4 k x hk) h5 ih
  | nils => exact .nils
  | nilc a => exact .nilc a
  | fz_emp a c => exact .fz_emp a c
  | fz xs sz a c vals h1 h2 h3 h4 h5 h6 h7 h8 ih =>
    exact .fz xs sz a c vals h1 (Nat.lt_of_lt_of_le h2 h.size) (nomu _ h2 h3) h4 h5 (fun k x hk => by rw [cell_eq (h.mem _ h2 h3)]; exact h6 k x hk) h7 ih
  | sl id g off len e sz els cap cur h1 h2 h3 h4 h5 h6 h7 =>
    obtain ⟨o', ho, he⟩ := h.obj id _ (lt_of_get h1) h1
    cases he with
    | arr _ _ _ _ els' k1 k2 k3 =>
      obtain ⟨cur', c1, c2⟩ := k3 h2 cur e h6
      rw [← k2]
      exact .sl id g off len e sz els' cap cur' ho (fun hx => h2 (by subst hx; exact List.eq_nil_of_length_eq_zero (by simpa using k1.symm))) (by omega) h4 h5 (by rw [k2]; exact c1) (by rw [c2]; exact h7)
    | grown _ g' _ e' _ sz' _ els' k1 => exact .sl_stale id g off len _ _ _ (.inl ⟨g', e', sz', els', ho, k1⟩)
    | died => exact .sl_stale id g off len _ _ _ (.inr ho)
  | sl_emp id g e sz a h1 =>
    obtain ⟨o', ho, he⟩ := h.obj id _ (lt_of_get h1) h1
    cases he with
    | arr _ _ _ _ els' k1 k2 k3 =>
      obtain rfl : els' = [] := List.eq_nil_of_length_eq_zero (by simpa using k1)
      exact .sl_emp id g e sz a ho
    | grown _ g' _ e' _ sz' _ els' k1 => exact .sl_stale id g 0 0 _ _ _ (.inl ⟨g', e', sz', els', ho, k1⟩)
    | died => exact .sl_stale id g 0 0 _ _ _ (.inr ho)
  | sl_stale id g off len a n c hs => exact .sl_stale id g off len a n c (hs.ext h)
  | fn f first cap vf vc h1 h2 h3 h4 i1 i2 => exact .fn f first cap vf vc h1 h2 i1 i2
  | nilf => exact .nilf
  | iface t x v h1 ih => exact .iface t x v ih
  | nili => exact .nili
  | agg cells vs h1 h2 h3 ih => exact .agg cells vs h1 h2 ih
  | tuple xs vs h1 h2 ih => exact .tuple xs vs h1 ih
  | yfn id st pend T ps asg body h1 =>
    obtain ⟨o', ho, he⟩ := h.obj id _ (lt_of_get h1) h1
    cases he with
    | loop _ st' _ pend' _ _ _ _ k1 => rw [← k1]; exact .yfn id st' pend' T ps asg body ho
    | left => exact .yfn_stale id _ ho
  | yfn_stale id v h1 =>
    obtain ⟨o', ho, he⟩ := h.obj id _ (lt_of_get h1) h1
    cases he
    exact .yfn_stale id v ho
  | junk v => exact .junk v

/-- Lists of values. -/
def RepL (ρ : Nat → Nat) (H : List AObj) (w : World) (xs : List AV) (vs : Array Value) : Prop :=
  vs.size = xs.length ∧ ∀ (k : Nat) (x : AV), xs[k]? = some x → Rep ρ H w x (vs.getD k undef)

theorem RepL.mono {ρ ρ' : Nat → Nat} {H H' : List AObj} {w w' : World} (h : Ext H.length ρ H w ρ' H' w') {xs : List AV} {vs : Array Value} (hr : RepL ρ H w xs vs) : RepL ρ' H' w' xs vs :=
  ⟨hr.1, fun k x hk => (hr.2 k x hk).mono h⟩

theorem HeapOK.lt {ρ : Nat → Nat} {H : List AObj} {w : World} (h : HeapOK ρ H w) {b : Nat} (hm : Mu ρ H b) : b < w.heap.size := by
  obtain ⟨id, o, ho, hl, rfl⟩ := hm
  have hz : ∀ (cur : Array Value) (e : TypeId), w.heap[ρ id]? = some (.cells cur e (0, 0)) → ρ id < w.heap.size := by
    intro cur e hc
    rcases Nat.lt_or_ge (ρ id) w.heap.size with h' | h'
    · exact h'
    · simp [Array.getElem?_eq_none h'] at hc
  cases o with
  | var cs => obtain ⟨cur, e, hc, _⟩ := h.var id cs ho; exact hz cur e hc
  | arr g e sz els => obtain ⟨cur, cap, hc, _⟩ := (h.arr id g e sz els ho).2 hl; exact hz cur e hc
  | loop st pend T ps asg body =>
    obtain ⟨fn, D, tmps, hc, _⟩ := h.loop id st pend T ps asg body ho
    rcases Nat.lt_or_ge (ρ id) w.heap.size with h' | h'
    · exact h'
    · simp [Array.getElem?_eq_none h'] at hc
  | dead => exact hl.elim

/-- Whatever is no block for deferred calls lies as it lay. -/
def SameButDef (w w' : World) : Prop := w.heap.size ≤ w'.heap.size ∧ ∀ b : Nat, (∀ ds, w.heap[b]? ≠ some (.deferred ds)) → w'.heap[b]? = w.heap[b]?

theorem cell_same {w w' : World} (h : SameButDef w w') {a : Addr} {v : Value} (hc : w.cell? a = some v) : w'.cell? a = some v := by
  have hb : ∀ ds, w.heap[a.block]? ≠ some (.deferred ds) := by
    intro ds hd
    unfold World.cell? at hc
    rw [hd] at hc
    cases hc
  rw [← hc]
  exact World.cell?_of_block (h.2 _ hb)

theorem Rep.same {ρ : Nat → Nat} {H : List AObj} {w w' : World} (h : SameButDef w w') {x : AV} {v : Value} (hr : Rep ρ H w x v) : Rep ρ H w' x v := by
  induction hr with
  | bool b => exact .bool b
  | int k n => exact .int k n
  | str s b h1 => exact .str s b h1
  | nilp => exact .nilp
  | ptr id off cs h1 => exact .ptr id off cs h1
  | eptr id g i off e sz els h1 h2 => exact .eptr id g i off e sz els h1 h2
  | eptr_stale id g i off a hs => exact .eptr_stale id g i off a hs
  | fptr cells a vals h1 h2 h3 h4 h5 h6 ih => exact .fptr cells a vals h1 (Nat.lt_of_lt_of_le h2 h.1) h3 (fun k x hk => cell_same h (h4 k x hk)) h5 ih
  | nils => exact .nils
  | nilc a => exact .nilc a
  | fz_emp a c => exact .fz_emp a c
  | fz xs sz a c vals h1 h2 h3 h4 h5 h6 h7 h8 ih => exact .fz xs sz a c vals h1 (Nat.lt_of_lt_of_le h2 h.1) h3 h4 h5 (fun k x hk => cell_same h (h6 k x hk)) h7 ih
  | sl id g off len e sz els cap cur h1 h2 h3 h4 h5 h6 h7 => exact .sl id g off len e sz els cap cur h1 h2 h3 h4 h5 ((h.2 _ (by rw [h6]; intro ds hd; cases hd)).trans h6) h7
  | sl_emp id g e sz a h1 => exact .sl_emp id g e sz a h1
  | sl_stale id g off len a n c hs => exact .sl_stale id g off len a n c hs
  | fn f first cap vf vc h1 h2 h3 h4 i1 i2 => exact .fn f first cap vf vc h1 h2 i1 i2
  | nilf => exact .nilf
  | iface t x v h1 ih => exact .iface t x v ih
  | nili => exact .nili
  | agg cells vs h1 h2 h3 ih => exact .agg cells vs h1 h2 ih
  | tuple xs vs h1 h2 ih => exact .tuple xs vs h1 ih
  | yfn id st pend T ps asg body h1 => exact .yfn id st pend T ps asg body h1
  | yfn_stale id v h1 => exact .yfn_stale id v h1
  | junk v => exact .junk v

theorem HeapOK.same {ρ : Nat → Nat} {H : List AObj} {w w' : World} (hh : HeapOK ρ H w) (h : SameButDef w w') : HeapOK ρ H w' := by
  refine ⟨hh.inj, ?_, ?_, ?_⟩
  · intro id cs hid
    obtain ⟨cur, e, h1, h2, h3⟩ := hh.var id cs hid
    exact ⟨cur, e, (h.2 _ (by rw [h1]; intro ds hd; cases hd)).trans h1, h2, fun k x hk => ⟨(h3 k x hk).1, (h3 k x hk).2.same h⟩⟩
  · intro id g e sz els hid
    obtain ⟨h1, h2⟩ := hh.arr id g e sz els hid
    refine ⟨h1, fun hne => ?_⟩
    obtain ⟨cur, cap, k1, k2, k3, k4, k5⟩ := h2 hne
    exact ⟨cur, cap, (h.2 _ (by rw [k1]; intro ds hd; cases hd)).trans k1, k2, k3, k4, fun k x hk => ⟨(k5 k x hk).1, (k5 k x hk).2.same h⟩⟩
  · intro id st pend T ps asg body hid
    obtain ⟨fn, D, tmps, k1, k2, k3⟩ := hh.loop id st pend T ps asg body hid
    exact ⟨fn, D, tmps, (h.2 _ (by rw [k1]; intro ds hd; cases hd)).trans k1, k2, fun k x hk => (k3 k x hk).same h⟩

end Go.Proofs.Ytamoclnnakdiaaa.Abs
