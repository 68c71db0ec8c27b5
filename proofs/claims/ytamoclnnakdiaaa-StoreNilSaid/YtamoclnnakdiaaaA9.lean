/-
  Forgetting: slots, objects of the call's own, arrays that nobody writes any more.
  Conditions: none.
-/
import Derived.Test.YtamoclnnakdiaaaA8
namespace Go.Proofs.Ytamoclnnakdiaaa.Abs
open Go Go.RowKit
set_option linter.unusedVariables false
set_option linter.unusedSimpArgs false

/-- T' tells of each slot what T tells, or nothing. -/
def LeT : List AV → List AV → Prop
  | [], [] => True
  | x :: l, y :: l' => (y = .junk ∨ y = x) ∧ LeT l l'
  | _, _ => False

theorem LeT.refl : ∀ l : List AV, LeT l l
  | [] => trivial
  | _ :: l => ⟨.inr rfl, LeT.refl l⟩

theorem LeT.spec : ∀ {l l' : List AV}, LeT l l' → l'.length = l.length ∧ ∀ (k : Nat) (y : AV), l'[k]? = some y → y = .junk ∨ l[k]? = some y
  | [], [], _ => ⟨rfl, fun k y h => by simp at h⟩
  | x :: l, y :: l', h => by
    obtain ⟨h1, h2⟩ := h
    obtain ⟨h3, h4⟩ := LeT.spec h2
    refine ⟨by simp [h3], ?_⟩
    intro k z hk
    cases k with
    | zero =>
      simp only [List.getElem?_cons_zero, Option.some.injEq] at hk
      subst hk
      rcases h1 with h1 | h1
      · exact .inl h1
      · exact .inr (by rw [h1]; rfl)
    | succ k => exact h4 k z (by simpa using hk)
  | [], _ :: _, h => h.elim
  | _ :: _, [], h => h.elim

theorem LeT.rep {ρ : Nat → Nat} {H : List AObj} {w : World} {T T' : List AV} {vs : Array Value} (h : LeT T T') (hr : RepL ρ H w T vs) : RepL ρ H w T' vs := by
  obtain ⟨h1, h2⟩ := h.spec
  refine ⟨by rw [h1]; exact hr.1, ?_⟩
  intro k y hk
  rcases h2 k y hk with rfl | h3
  · exact .junk _
  · exact hr.2 k y h3

theorem weak_junk {m : Nat} {T T' : List AV} {H : List AObj} (h : LeT T T') : Weak m ⟨T, H⟩ ⟨T', H⟩ :=
  fun ρ w a hr => ⟨ρ, ⟨h.rep hr.tmps, hr.heap⟩, .refl m ρ H w⟩

/-! ## all names below n -/
inductive Below' (n : Nat) : AV → Prop where
  | bool (b : Bool) : Below' n (.bool b)
  | int (k : IntKind) (i : Int) : Below' n (.int k i)
  | str (s : List UInt8) : Below' n (.str s)
  | nilp : Below' n .nilp
  | ptr (id off : Nat) : id < n → Below' n (.ptr id off)
  | eptr (id g i off : Nat) : id < n → Below' n (.eptr id g i off)
  | fptr (cs : List AV) : (∀ x, x ∈ cs → Below' n x) → Below' n (.fptr cs)
  | nils : Below' n .nils
  | nilc : Below' n .nilc
  | fz (xs : List AV) : (∀ x, x ∈ xs → Below' n x) → Below' n (.fz xs)
  | sl (id g off len : Nat) : id < n → Below' n (.sl id g off len)
  | fn (f : Fn) (first cap : List AV) : (∀ x, x ∈ first → Below' n x) → (∀ x, x ∈ cap → Below' n x) → Below' n (.fn f first cap)
  | nilf : Below' n .nilf
  | iface (t : TypeId) (x : AV) : Below' n x → Below' n (.iface t x)
  | nili : Below' n .nili
  | agg (cs : List AV) : (∀ x, x ∈ cs → Below' n x) → Below' n (.agg cs)
  | tuple (xs : List AV) : (∀ x, x ∈ xs → Below' n x) → Below' n (.tuple xs)
  | yfn (id : Nat) : id < n → Below' n (.yfn id)
  | junk : Below' n .junk

@[simp] theorem below_bool (n : Nat) (b : Bool) : Below' n (.bool b) ↔ True := ⟨fun _ => trivial, fun _ => .bool b⟩
@[simp] theorem below_int (n : Nat) (k : IntKind) (i : Int) : Below' n (.int k i) ↔ True := ⟨fun _ => trivial, fun _ => .int k i⟩
@[simp] theorem below_str (n : Nat) (s : List UInt8) : Below' n (.str s) ↔ True := ⟨fun _ => trivial, fun _ => .str s⟩
@[simp] theorem below_nilp (n : Nat) : Below' n .nilp ↔ True := ⟨fun _ => trivial, fun _ => .nilp⟩
@[simp] theorem below_ptr (n id off : Nat) : Below' n (.ptr id off) ↔ id < n := ⟨fun h => by cases h; assumption, .ptr id off⟩
@[simp] theorem below_eptr (n id g i off : Nat) : Below' n (.eptr id g i off) ↔ id < n := ⟨fun h => by cases h; assumption, .eptr id g i off⟩
@[simp] theorem below_fptr (n : Nat) (cs : List AV) : Below' n (.fptr cs) ↔ ∀ x, x ∈ cs → Below' n x := ⟨fun h => by cases h; assumption, .fptr cs⟩
@[simp] theorem below_nilc (n : Nat) : Below' n .nilc ↔ True := ⟨fun _ => trivial, fun _ => .nilc⟩
@[simp] theorem below_nils (n : Nat) : Below' n .nils ↔ True := ⟨fun _ => trivial, fun _ => .nils⟩
@[simp] theorem below_fz (n : Nat) (xs : List AV) : Below' n (.fz xs) ↔ ∀ x, x ∈ xs → Below' n x := ⟨fun h => by cases h; assumption, .fz xs⟩
@[simp] theorem below_sl (n id g off len : Nat) : Below' n (.sl id g off len) ↔ id < n := ⟨fun h => by cases h; assumption, .sl id g off len⟩
@[simp] theorem below_fn (n : Nat) (f : Fn) (first cap : List AV) : Below' n (.fn f first cap) ↔ (∀ x, x ∈ first → Below' n x) ∧ (∀ x, x ∈ cap → Below' n x) := ⟨fun h => by cases h; exact ⟨by assumption, by assumption⟩, fun h => .fn f first cap h.1 h.2⟩
@[simp] theorem below_nilf (n : Nat) : Below' n .nilf ↔ True := ⟨fun _ => trivial, fun _ => .nilf⟩
@[simp] theorem below_iface (n : Nat) (t : TypeId) (x : AV) : Below' n (.iface t x) ↔ Below' n x := ⟨fun h => by cases h; assumption, .iface t x⟩
@[simp] theorem below_nili (n : Nat) : Below' n .nili ↔ True := ⟨fun _ => trivial, fun _ => .nili⟩
@[simp] theorem below_agg (n : Nat) (cs : List AV) : Below' n (.agg cs) ↔ ∀ x, x ∈ cs → Below' n x := ⟨fun h => by cases h; assumption, .agg cs⟩
@[simp] theorem below_tuple (n : Nat) (cs : List AV) : Below' n (.tuple cs) ↔ ∀ x, x ∈ cs → Below' n x := ⟨fun h => by cases h; assumption, .tuple cs⟩
@[simp] theorem below_yfn (n id : Nat) : Below' n (.yfn id) ↔ id < n := ⟨fun h => by cases h; assumption, .yfn id⟩
@[simp] theorem below_junk (n : Nat) : Below' n .junk ↔ True := ⟨fun _ => trivial, fun _ => .junk⟩

theorem Below'.mono {n n' : Nat} (h : n ≤ n') {x : AV} (hx : Below' n x) : Below' n' x := by
  induction hx with
  | bool b => exact .bool b
  | int k i => exact .int k i
  | str s => exact .str s
  | nilp => exact .nilp
  | ptr id off h1 => exact .ptr id off (by omega)
  | eptr id g i off h1 => exact .eptr id g i off (by omega)
  | fptr cs _ ih => exact .fptr cs ih
  | nils => exact .nils
  | nilc => exact .nilc
  | fz xs _ ih => exact .fz xs ih
  | sl id g off len h1 => exact .sl id g off len (by omega)
  | fn f first cap _ _ ih1 ih2 => exact .fn f first cap ih1 ih2
  | nilf => exact .nilf
  | iface t x _ ih => exact .iface t x ih
  | nili => exact .nili
  | agg cs _ ih => exact .agg cs ih
  | tuple xs _ ih => exact .tuple xs ih
  | yfn id h1 => exact .yfn id (by omega)
  | junk => exact .junk

theorem below_of_cells {n : Nat} {x : AV} (h : ∀ y, y ∈ x.cells → Below' n y) : Below' n x := by
  cases x <;> first | exact .agg _ h | exact h _ (by simp [AV.cells])

theorem get_of_mem {α : Type} {l : List α} {x : α} (h : x ∈ l) : ∃ k : Nat, l[k]? = some x := List.getElem?_of_mem h

/-- What is told of a value names live objects alone. -/
theorem Rep.names {ρ : Nat → Nat} {H : List AObj} {w : World} {x : AV} {v : Value} (h : Rep ρ H w x v) : Below' H.length x := by
  have slt : ∀ (id g : Nat), Stale H id g → id < H.length := fun id g hs => by
    rcases hs with ⟨_, _, _, _, h1, _⟩ | h1
    · exact lt_of_get h1
    · exact lt_of_get h1
  induction h with
  | bool b => exact .bool b
  | int k n => exact .int k n
  | str s b h1 => exact .str s
  | nilp => exact .nilp
  | ptr id off cs h1 => exact .ptr id off (lt_of_get h1)
  | eptr id g i off e sz els h1 h2 => exact .eptr id g i off (lt_of_get h1)
  | eptr_stale id g i off a hs => exact .eptr id g i off (slt id g hs)
  | fptr cells a vals h1 h2 h3 h4 h5 h6 ih => exact .fptr cells (fun x hx => by obtain ⟨k, hk⟩ := get_of_mem hx; exact ih k x hk)
  | nils => exact .nils
  | nilc a => exact .nilc
  | fz_emp a c => exact .fz [] (fun x hx => by simp at hx)
  | fz xs sz a c vals h1 h2 h3 h4 h5 h6 h7 h8 ih =>
    refine .fz xs (fun x hx => below_of_cells (fun y hy => ?_))
    have : y ∈ flat xs := List.mem_flatMap.2 ⟨x, hx, hy⟩
    obtain ⟨k, hk⟩ := get_of_mem this
    exact ih k y hk
  | sl id g off len e sz els cap cur h1 h2 h3 h4 h5 h6 h7 => exact .sl id g off len (lt_of_get h1)
  | sl_emp id g e sz a h1 => exact .sl id g 0 0 (lt_of_get h1)
  | sl_stale id g off len a n c hs => exact .sl id g off len (slt id g hs)
  | fn f first cap vf vc h1 h2 h3 h4 i1 i2 => exact .fn f first cap (fun x hx => by obtain ⟨k, hk⟩ := get_of_mem hx; exact i1 k x hk) (fun x hx => by obtain ⟨k, hk⟩ := get_of_mem hx; exact i2 k x hk)
  | nilf => exact .nilf
  | iface t x v h1 ih => exact .iface t x ih
  | nili => exact .nili
  | agg cells vs h1 h2 h3 ih => exact .agg cells (fun x hx => by obtain ⟨k, hk⟩ := get_of_mem hx; exact ih k x hk)
  | tuple xs vs h1 h2 ih => exact .tuple xs (fun x hx => by obtain ⟨k, hk⟩ := get_of_mem hx; exact ih k x hk)
  | yfn id st pend T ps asg body h1 => exact .yfn id (lt_of_get h1)
  | yfn_stale id v h1 => exact .yfn id (lt_of_get h1)
  | junk v => exact .junk

def ObjBelow (n : Nat) : AObj → Prop
  | .var cs => ∀ x, x ∈ cs → Below' n x
  | .arr _ _ _ els => ∀ x, x ∈ els → Below' n x
  | .loop _ _ T _ _ _ => ∀ x, x ∈ T → Below' n x
  | .dead => True

/-- The objects of a heap name objects of that heap alone. -/
def HB (H : List AObj) : Prop := ∀ o, o ∈ H → ObjBelow H.length o

theorem HeapOK.below {ρ : Nat → Nat} {H : List AObj} {w : World} (h : HeapOK ρ H w) : HB H := by
  intro o ho
  obtain ⟨id, hid⟩ := get_of_mem ho
  cases o with
  | var cs =>
    obtain ⟨cur, e, h1, h2, h3⟩ := h.var id cs hid
    intro x hx
    obtain ⟨k, hk⟩ := get_of_mem hx
    exact (h3 k x hk).2.names
  | arr g e sz els =>
    obtain ⟨h1, h2⟩ := h.arr id g e sz els hid
    intro x hx
    have hne : els ≠ [] := fun h0 => by subst h0; simp at hx
    obtain ⟨cur, cap, h3, h4, h5, h6, h7⟩ := h2 hne
    refine below_of_cells (fun y hy => ?_)
    have : y ∈ flat els := List.mem_flatMap.2 ⟨x, hx, hy⟩
    obtain ⟨k, hk⟩ := get_of_mem this
    exact (h7 k y hk).2.names
  | loop st pend T ps asg body =>
    obtain ⟨fn, D, tmps, h1, h2, h3⟩ := h.loop id st pend T ps asg body hid
    intro x hx
    obtain ⟨k, hk⟩ := get_of_mem hx
    exact (h3 k x hk).names
  | dead => trivial

/-! ## objects of the call's own go -/
theorem mu_app {ρ : Nat → Nat} {H L : List AObj} {b : Nat} (h : Mu ρ H b) : Mu ρ (H ++ L) b := by
  obtain ⟨id, o, h1, h2, h3⟩ := h
  exact ⟨id, o, by rw [List.getElem?_append_left (lt_of_get h1)]; exact h1, h2, h3⟩

theorem Rep.trunc {ρ : Nat → Nat} {H L : List AObj} {w : World} {x : AV} {v : Value} (h : Rep ρ (H ++ L) w x v) (hb : Below' H.length x) : Rep ρ H w x v := by
  have back : ∀ (id : Nat) (o : AObj), id < H.length → (H ++ L)[id]? = some o → H[id]? = some o := fun id o hid ho => by rwa [List.getElem?_append_left hid] at ho
  have stale : ∀ (id g : Nat), id < H.length → Stale (H ++ L) id g → Stale H id g := fun id g hid hs => by
    rcases hs with ⟨g', e, sz, els, h1, h2⟩ | h1
    · exact .inl ⟨g', e, sz, els, back id _ hid h1, h2⟩
    · exact .inr (back id _ hid h1)
  induction h with
  | bool b => exact .bool b
  | int k n => exact .int k n
  | str s b h1 => exact .str s b h1
  | nilp => exact .nilp
  | ptr id off cs h1 => exact .ptr id off cs (back id _ (by simpa using hb) h1)
  | eptr id g i off e sz els h1 h2 => exact .eptr id g i off e sz els (back id _ (by simpa using hb) h1) h2
  | eptr_stale id g i off a hs => exact .eptr_stale id g i off a (stale id g (by simpa using hb) hs)
  | fptr cells a vals h1 h2 h3 h4 h5 h6 ih =>
    have hb' := (below_fptr _ _).1 hb
    exact .fptr cells a vals h1 h2 (fun hm => h3 (mu_app hm)) h4 h5 (fun k x hk => ih k x hk (hb' x (List.mem_of_getElem? hk)))
  | nils => exact .nils
  | nilc a => exact .nilc a
  | fz_emp a c => exact .fz_emp a c
  | fz xs sz a c vals h1 h2 h3 h4 h5 h6 h7 h8 ih =>
    have hb' := (below_fz _ _).1 hb
    refine .fz xs sz a c vals h1 h2 (fun hm => h3 (mu_app hm)) h4 h5 h6 h7 (fun k x hk => ih k x hk ?_)
    obtain ⟨y, hy, hxy⟩ := List.mem_flatMap.1 (List.mem_of_getElem? hk)
    have hby := hb' y hy
    cases y <;> simp only [AV.cells, List.mem_singleton] at hxy <;> first | (subst hxy; exact hby) | exact (below_agg _ _).1 hby x hxy
  | sl id g off len e sz els cap cur h1 h2 h3 h4 h5 h6 h7 => exact .sl id g off len e sz els cap cur (back id _ (by simpa using hb) h1) h2 h3 h4 h5 h6 h7
  | sl_emp id g e sz a h1 => exact .sl_emp id g e sz a (back id _ (by simpa using hb) h1)
  | sl_stale id g off len a n c hs => exact .sl_stale id g off len a n c (stale id g (by simpa using hb) hs)
  | fn f first cap vf vc h1 h2 h3 h4 i1 i2 =>
    have hb' := (below_fn _ _ _ _).1 hb
    exact .fn f first cap vf vc h1 h2 (fun k x hk => i1 k x hk (hb'.1 x (List.mem_of_getElem? hk))) (fun k x hk => i2 k x hk (hb'.2 x (List.mem_of_getElem? hk)))
  | nilf => exact .nilf
  | iface t x v h1 ih => exact .iface t x v (ih ((below_iface _ _ _).1 hb))
  | nili => exact .nili
  | agg cells vs h1 h2 h3 ih =>
    have hb' := (below_agg _ _).1 hb
    exact .agg cells vs h1 h2 (fun k x hk => ih k x hk (hb' x (List.mem_of_getElem? hk)))
  | tuple xs vs h1 h2 ih =>
    have hb' := (below_tuple _ _).1 hb
    exact .tuple xs vs h1 (fun k x hk => ih k x hk (hb' x (List.mem_of_getElem? hk)))
  | yfn id st pend T ps asg body h1 => exact .yfn id st pend T ps asg body (back id _ (by simpa using hb) h1)
  | yfn_stale id v h1 => exact .yfn_stale id v (back id _ (by simpa using hb) h1)
  | junk v => exact .junk v

/-- The objects L go; what is kept names none of them. -/
theorem weak_trunc {m : Nat} {T T' : List AV} {H L : List AObj} (hm : m ≤ H.length) (hle : LeT T T') (hT : ∀ x, x ∈ T' → Below' H.length x) (hB : HB H) : Weak m ⟨T, H ++ L⟩ ⟨T', H⟩ := by
  intro ρ w a hr
  have back : ∀ (id : Nat) (o : AObj), H[id]? = some o → (H ++ L)[id]? = some o := fun id o ho => by rw [List.getElem?_append_left (lt_of_get ho)]; exact ho
  refine ⟨ρ, ⟨?_, ?_⟩, ?_⟩
  · obtain ⟨h1, h2⟩ := hle.rep hr.tmps
    exact ⟨h1, fun k x hk => (h2 k x hk).trunc (hT x (List.mem_of_getElem? hk))⟩
  · refine ⟨?_, ?_, ?_, ?_⟩
    · intro i j o p ho hol hp hpl hij
      exact hr.heap.inj i j o p (back i o ho) hol (back j p hp) hpl hij
    · intro id cs hid
      obtain ⟨cur, e, h1, h2, h3⟩ := hr.heap.var id cs (back id _ hid)
      have hb := hB _ (List.mem_of_getElem? hid)
      exact ⟨cur, e, h1, h2, fun k x hk => ⟨(h3 k x hk).1, (h3 k x hk).2.trunc (hb x (List.mem_of_getElem? hk))⟩⟩
    · intro id g e sz els hid
      obtain ⟨h1, h2⟩ := hr.heap.arr id g e sz els (back id _ hid)
      refine ⟨h1, fun hne => ?_⟩
      obtain ⟨cur, cap, h3, h4, h5, h6, h7⟩ := h2 hne
      have hb := hB _ (List.mem_of_getElem? hid)
      refine ⟨cur, cap, h3, h4, h5, h6, fun k x hk => ⟨(h7 k x hk).1, (h7 k x hk).2.trunc ?_⟩⟩
      obtain ⟨y, hy, hxy⟩ := List.mem_flatMap.1 (List.mem_of_getElem? hk)
      have hby := hb y hy
      cases y <;> simp only [AV.cells, List.mem_singleton] at hxy <;> first | (subst hxy; exact hby) | exact (below_agg _ _).1 hby x hxy
    · intro id st pend T1 ps asg body hid
      obtain ⟨fn, D, tmps, h1, h2, h3⟩ := hr.heap.loop id st pend T1 ps asg body (back id _ hid)
      have hb := hB _ (List.mem_of_getElem? hid)
      exact ⟨fn, D, tmps, h1, h2, fun k x hk => (h3 k x hk).trunc (hb x (List.mem_of_getElem? hk))⟩
  · refine ⟨rfl, rfl, rfl, Nat.le_refl _, fun _ _ _ => rfl, fun b hb => .inl (mu_app hb), ?_⟩
    intro id o hid ho
    rw [List.getElem?_append_left (by omega)] at ho
    exact ⟨o, ho, .refl ρ w id o⟩

/-! ## arrays that nobody writes any more -/
/-- x' is x with the slices of array id read as they are now. -/
inductive Frz (id g : Nat) (els : List AV) : AV → AV → Prop where
  | same (x : AV) : Frz id g els x x
  | sl (off len : Nat) (ys : List AV) : ys = (els.drop off).take len → Frz id g els (.sl id g off len) (.fz ys)
  | agg (cs cs' : List AV) : cs'.length = cs.length → (∀ (k : Nat) (x y : AV), cs[k]? = some x → cs'[k]? = some y → Frz id g els x y) → Frz id g els (.agg cs) (.agg cs')
  | tuple (cs cs' : List AV) : cs'.length = cs.length → (∀ (k : Nat) (x y : AV), cs[k]? = some x → cs'[k]? = some y → Frz id g els x y) → Frz id g els (.tuple cs) (.tuple cs')

theorem Frz.rep {ρ : Nat → Nat} {H : List AObj} {w : World} (hh : HeapOK ρ H w) {id g : Nat} {e : TypeId} {sz : Nat} {els : List AV} (hid : H[id]? = some (.arr g e sz els))
    (hext : Ext H.length ρ H w ρ (hset H id .dead) w) {x x' : AV} (hf : Frz id g els x x') : ∀ {v : Value}, Rep ρ H w x v → Rep ρ (hset H id .dead) w x' v := by
  induction hf with
  | same x => intro v h; exact h.mono hext
  | sl off len ys hys =>
    intro v h
    subst hys
    cases h with
    | sl _ _ _ _ e1 sz1 els1 cap cur h1 h2 h3 h4 h5 h6 h7 =>
      rw [h1] at hid
      cases hid
      obtain ⟨hsz, hc⟩ := hh.arr id g e sz els h1
      obtain ⟨cur2, cap2, c1, c2, c3, c4, c5⟩ := hc h2
      rw [h6] at c1
      cases c1
      have hlen : ((els.drop off).take len).length = len := by simp; omega
      have hlt := hh.lt ⟨id, _, h1, h2, rfl⟩
      have nomu : ¬ Mu ρ (hset H id .dead) (ρ id) := by
        rintro ⟨j, o, ho, hl, hj⟩
        unfold hset at ho
        by_cases hij : id = j
        · subst hij
          rw [get_set_self h1] at ho
          cases ho
          exact hl
        · rw [get_set_ne hij] at ho
          exact hij (hh.inj id j _ o h1 h2 ho hl hj.symm)
      have hsub : ∀ z, z ∈ (els.drop off).take len → z.cells.length = sz := fun z hz => hsz z (List.mem_of_mem_drop (List.mem_of_mem_take hz))
      have hfl : ∀ (k : Nat) (y : AV), (flat ((els.drop off).take len))[k]? = some y → (flat els)[off * sz + k]? = some y := by
        intro k y hk
        have hx : els = els.take off ++ ((els.drop off).take len ++ (els.drop off).drop len) := by rw [List.take_append_drop, List.take_append_drop]
        have hpre : (flat (els.take off)).length = off * sz := by
          rw [flat_length (fun z hz => hsz z (List.mem_of_mem_take hz)), List.length_take, Nat.min_eq_left (by omega)]
        have hfx : flat els = flat (els.take off) ++ (flat ((els.drop off).take len) ++ flat ((els.drop off).drop len)) := by
          conv => lhs; rw [hx]
          simp only [flat, List.flatMap_append]
        rw [hfx, List.getElem?_append_right (by omega), hpre, show off * sz + k - off * sz = k by omega, List.getElem?_append_left (lt_of_get hk)]
        exact hk
      have hfe := flat_length hsz
      have hm2 : els.length * sz ≤ cap2 * sz := Nat.mul_le_mul_right _ c2
      have key : Rep ρ (hset H id .dead) w (.fz ((els.drop off).take len)) (.slice (some ⟨ρ id, off * sz, none⟩) ((els.drop off).take len).length cap) := by
        refine .fz _ sz _ cap (fun k => cur.getD (off * sz + k) undef) rfl hlt nomu (by omega) hsub ?_ ?_ ?_
        · intro k y hk
          have := lt_of_get (hfl k y hk)
          show w.cell? ⟨ρ id, off * sz + k, none⟩ = _
          exact cell_row_getD h6 (by omega)
        · intro k y hk; exact (c5 _ y (hfl k y hk)).1
        · intro k y hk; exact (c5 _ y (hfl k y hk)).2.mono hext
      rw [hlen] at key
      exact key
    | sl_emp _ _ e1 sz1 a h1 =>
      rw [h1] at hid
      cases hid
      rw [List.drop_nil, List.take_nil]
      exact .fz_emp _ _
    | sl_stale _ _ _ _ a n c hs =>
      rcases hs with ⟨g2, e2, sz2, els2, q1, q2⟩ | q1
      · rw [q1] at hid; cases hid; omega
      · rw [q1] at hid; cases hid
  | agg cs cs' hl _ ih =>
    intro v h
    cases h with
    | agg _ vs h1 h2 h3 =>
      refine .agg cs' vs (by omega) ?_ ?_
      · intro k y hk
        have hk' := lt_of_get hk
        exact h2 k _ (List.getElem?_eq_getElem (by omega))
      · intro k y hk
        have hk' := lt_of_get hk
        exact ih k _ y (List.getElem?_eq_getElem (by omega)) hk (h3 k _ (List.getElem?_eq_getElem (by omega)))
  | tuple cs cs' hl _ ih =>
    intro v h
    cases h with
    | tuple _ vs h1 h3 =>
      refine .tuple cs' vs (by omega) ?_
      intro k y hk
      have hk' := lt_of_get hk
      exact ih k _ y (List.getElem?_eq_getElem (by omega)) hk (h3 k _ (List.getElem?_eq_getElem (by omega)))

def FrzL (id g : Nat) (els : List AV) : List AV → List AV → Prop
  | [], [] => True
  | x :: l, y :: l' => (y = .junk ∨ Frz id g els x y) ∧ FrzL id g els l l'
  | _, _ => False

theorem FrzL.spec {id g : Nat} {els : List AV} : ∀ {l l' : List AV}, FrzL id g els l l' → l'.length = l.length ∧ ∀ (k : Nat) (y : AV), l'[k]? = some y → y = .junk ∨ ∃ x, l[k]? = some x ∧ Frz id g els x y
  | [], [], _ => ⟨rfl, fun k y h => by simp at h⟩
  | x :: l, y :: l', h => by
    obtain ⟨h1, h2⟩ := h
    obtain ⟨h3, h4⟩ := FrzL.spec h2
    refine ⟨by simp [h3], ?_⟩
    intro k z hk
    cases k with
    | zero =>
      simp only [List.getElem?_cons_zero, Option.some.injEq] at hk
      subst hk
      rcases h1 with h1 | h1
      · exact .inl h1
      · exact .inr ⟨x, rfl, h1⟩
    | succ k => exact h4 k z (by simpa using hk)
  | [], _ :: _, h => h.elim
  | _ :: _, [], h => h.elim

/-- Array id (the call's own) is read by value from now on. -/
theorem weak_freeze {m : Nat} {T T' : List AV} {H : List AObj} (id : Nat) {g : Nat} {e : TypeId} {sz : Nat} {els : List AV} (hm : m ≤ id) (hid : hget H id = some (.arr g e sz els)) (hle : FrzL id g els T T') :
    Weak m ⟨T, H⟩ ⟨T', hset H id .dead⟩ := by
  intro ρ w a hr
  unfold hget at hid
  have hext : Ext H.length ρ H w ρ (hset H id .dead) w := by
    refine ⟨rfl, rfl, rfl, Nat.le_refl _, fun _ _ _ => rfl, ?_, ?_⟩
    · rintro b ⟨j, o, ho, hl, rfl⟩
      unfold hset at ho
      by_cases hij : id = j
      · subst hij
        rw [get_set_self hid] at ho
        cases ho
        exact hl.elim
      · rw [get_set_ne hij] at ho
        exact .inl ⟨j, o, ho, hl, rfl⟩
    · intro j o hj ho
      by_cases hij : id = j
      · subst hij
        rw [hid] at ho
        cases ho
        exact ⟨.dead, get_set_self hid, .died g e sz els⟩
      · exact ⟨o, by unfold hset; rw [get_set_ne hij]; exact ho, .refl ρ w j o⟩
  refine ⟨ρ, ⟨?_, ?_⟩, hext.mono (by
    show m ≤ H.length
    have := lt_of_get hid
    omega)⟩
  · obtain ⟨h1, h2⟩ := hle.spec
    refine ⟨by rw [h1]; exact hr.tmps.1, ?_⟩
    intro k y hk
    rcases h2 k y hk with rfl | ⟨x, hx, hf⟩
    · exact .junk _
    · exact hf.rep hr.heap hid hext (hr.tmps.2 k x hx)
  · refine ⟨?_, ?_, ?_, ?_⟩
    · intro i j o p ho hol hp hpl hij
      unfold hset at ho hp
      have fix : ∀ (c : Nat) (q : AObj), (H.set id .dead)[c]? = some q → q.live → H[c]? = some q := by
        intro c q hq hql
        by_cases hc : id = c
        · subst hc; rw [get_set_self hid] at hq; cases hq; exact hql.elim
        · rwa [get_set_ne hc] at hq
      exact hr.heap.inj i j o p (fix i o ho hol) hol (fix j p hp hpl) hpl hij
    · intro j cs hj
      unfold hset at hj
      by_cases hji : id = j
      · subst hji; rw [get_set_self hid] at hj; cases hj
      · rw [get_set_ne hji] at hj
        obtain ⟨cur1, e1, h1, h2, h3⟩ := hr.heap.var j cs hj
        exact ⟨cur1, e1, h1, h2, fun k x hk => ⟨(h3 k x hk).1, (h3 k x hk).2.mono hext⟩⟩
    · intro j g1 e1 sz1 els1 hj
      unfold hset at hj
      by_cases hji : id = j
      · subst hji; rw [get_set_self hid] at hj; cases hj
      · rw [get_set_ne hji] at hj
        obtain ⟨h1, h2⟩ := hr.heap.arr j g1 e1 sz1 els1 hj
        refine ⟨h1, fun hne => ?_⟩
        obtain ⟨cur, cap, h3, h4, h5, h6, h7⟩ := h2 hne
        exact ⟨cur, cap, h3, h4, h5, h6, fun k x hk => ⟨(h7 k x hk).1, (h7 k x hk).2.mono hext⟩⟩
    · intro j st pend T1 ps asg body hj
      unfold hset at hj
      by_cases hji : id = j
      · subst hji; rw [get_set_self hid] at hj; cases hj
      · rw [get_set_ne hji] at hj
        obtain ⟨fn, D, tmps, h1, h2, h3⟩ := hr.heap.loop j st pend T1 ps asg body hj
        exact ⟨fn, D, tmps, h1, h2, fun k x hk => (h3 k x hk).mono hext⟩

/-- A body's walk may take it that the arguments and the heap name what there is. -/
theorem acalls_body {P : Program} {f : FuncId} {fn : Func} {c : Code} {args : List AV} {H : List AObj} {Q : AEnd → List AObj → Prop}
    (hf : P.funcs[f]? = some fn) (hb : fn.body = some c)
    (h : HB H → (∀ x, x ∈ args → Below' H.length x) → AWP P false H.length c (bodyEnd P fn H.length Q) ⟨args0 fn args, H⟩) : ACalls P f args H Q := by
  intro ρ w vs ha hh
  exact acalls_of_awp hf hb (h hh.below (fun x hx => by obtain ⟨k, hk⟩ := get_of_mem hx; exact (ha.2 k x hk).names)) ρ w vs ha hh

end Go.Proofs.Ytamoclnnakdiaaa.Abs
