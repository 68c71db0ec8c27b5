/-
  Operations that make or write objects: alloc, box, store; the laws on writing a live object's block.
  Conditions: none.
-/
import Derived.Test.YtamoclnnakdiaaaA2R
namespace Go.Proofs.Ytamoclnnakdiaaa.Abs
open Go Go.RowKit
set_option linter.unusedVariables false
set_option linter.unusedSimpArgs false

/-! ## a row with a part put anew -/
def spl {α : Type} (l : List α) (off : Nat) (new : List α) : List α := l.take off ++ new ++ l.drop (off + new.length)

theorem spl_length {α : Type} (l new : List α) (off : Nat) (h : off + new.length ≤ l.length) : (spl l off new).length = l.length := by
  simp only [spl, List.length_append, List.length_take, List.length_drop]
  omega

theorem spl_get {α : Type} (l new : List α) (off k : Nat) (h : off + new.length ≤ l.length) :
    (spl l off new)[k]? = if k < off then l[k]? else if k < off + new.length then new[k - off]? else l[k]? := by
  unfold spl
  by_cases h1 : k < off
  · rw [if_pos h1, List.append_assoc, List.getElem?_append_left (by rw [List.length_take]; omega), List.getElem?_take, if_pos h1]
  · rw [if_neg h1]
    by_cases h2 : k < off + new.length
    · rw [if_pos h2, List.getElem?_append_left (by rw [List.length_append, List.length_take]; omega), List.getElem?_append_right (by rw [List.length_take]; omega), List.length_take]
      congr 1
      omega
    · rw [if_neg h2, List.getElem?_append_right (by rw [List.length_append, List.length_take]; omega), List.getElem?_drop]
      congr 1
      rw [List.length_append, List.length_take]
      omega

theorem getD_toArray {α : Type} (l : List α) (k : Nat) (d : α) : l.toArray.getD k d = l.getD k d := by
  simp [Array.getD_eq_getD_getElem?, List.getD_eq_getElem?_getD]

theorem arr_getD {α : Type} (a : Array α) (k : Nat) (d : α) : a.getD k d = a.toList.getD k d := by
  simp [Array.getD_eq_getD_getElem?, List.getD_eq_getElem?_getD]

/-- A relation between two rows goes over to the rows with parts put anew. -/
theorem spl_rel {R : AV → Value → Prop} {cs new : List AV} {cur : Array Value} {vs : List Value} {off : Nat} (hcur : cs.length ≤ cur.size) (hvs : vs.length = new.length) (hfit : off + new.length ≤ cs.length)
    (h1 : ∀ (k : Nat) (x : AV), cs[k]? = some x → R x (cur.getD k undef)) (h2 : ∀ (k : Nat) (x : AV), new[k]? = some x → R x (vs.getD k undef)) :
    ∀ (k : Nat) (x : AV), (spl cs off new)[k]? = some x → R x ((spl cur.toList off vs).toArray.getD k undef) := by
  intro k x hk
  rw [getD_toArray, List.getD_eq_getElem?_getD, spl_get cur.toList vs off k (by have := Array.length_toList (xs := cur); omega)]
  rw [spl_get _ _ _ _ hfit] at hk
  split at hk
  · rename_i h
    rw [if_pos h]
    have := h1 k x hk
    simpa [Array.getD_eq_getD_getElem?] using this
  · rename_i h
    rw [if_neg h]
    split at hk
    · rename_i h'
      rw [if_pos (by omega)]
      have := h2 _ x hk
      simpa [List.getD_eq_getElem?_getD] using this
    · rename_i h'
      rw [if_neg (by omega)]
      have := h1 k x hk
      simpa [Array.getD_eq_getD_getElem?] using this

/-! ## writing a live object -/
theorem get_set_self {H : List AObj} {id : Nat} {o o' : AObj} (h : H[id]? = some o) : (H.set id o')[id]? = some o' := by
  rw [List.getElem?_set_self (lt_of_get h)]

theorem get_set_ne {H : List AObj} {id j : Nat} {o' : AObj} (h : id ≠ j) : (H.set id o')[j]? = H[j]? := List.getElem?_set_ne h

theorem ext_write {ρ : Nat → Nat} {H : List AObj} {w : World} {id : Nat} {o o' : AObj} {cur cur' : Array Value} {e : TypeId}
    (ho : H[id]? = some o) (hl : o.live) (hc : w.heap[ρ id]? = some (.cells cur e (0, 0))) (hs : cur'.size = cur.size)
    (hoe : ObjExt ρ w ρ (w.setRow (ρ id) cur') id o o') : Ext H.length ρ H w ρ (H.set id o') (w.setRow (ρ id) cur') := by
  have shape : ∀ b, SameShape w (w.setRow (ρ id) cur') b := by
    intro b c1 e1 h1
    by_cases hb : b = ρ id
    · subst hb
      rw [hc] at h1
      cases h1
      exact ⟨cur', setRow_heap w _ cur cur' e (0, 0) hc, hs⟩
    · exact ⟨c1, by rw [setRow_other w _ b cur' hb]; exact h1, rfl⟩
  refine ⟨rfl, rfl, rfl, by simp, ?_, ?_, ?_⟩
  · intro b hb hm
    exact setRow_other w _ b cur' (fun hx => hm ⟨id, o, ho, hl, hx.symm⟩)
  · rintro b ⟨j, p, hp, hpl, rfl⟩
    by_cases hj : id = j
    · subst hj
      exact .inl ⟨id, o, ho, hl, rfl⟩
    · rw [get_set_ne hj] at hp
      exact .inl ⟨j, p, hp, hpl, rfl⟩
  · intro j p hj hp
    by_cases hij : id = j
    · subst hij
      rw [ho] at hp
      cases hp
      exact ⟨o', get_set_self ho, hoe⟩
    · refine ⟨p, by rw [get_set_ne hij]; exact hp, ?_⟩
      cases p with
      | var cs => exact .var cs cs rfl rfl
      | arr g e1 sz els => exact .arr g e1 sz els els rfl rfl (fun _ => shape _)
      | loop st pend T ps asg body => exact .loop st st pend pend T ps asg body rfl
      | dead => exact .dead

/-- The heap behind a write to object id: the others are as they were. -/
theorem heapOK_write {ρ : Nat → Nat} {H : List AObj} {w : World} (hh : HeapOK ρ H w) {id : Nat} {o o' : AObj} {cur' : Array Value}
    (ho : H[id]? = some o) (hl : o.live) (hext : Ext H.length ρ H w ρ (H.set id o') (w.setRow (ρ id) cur'))
    (hvar : ∀ cs, o' = .var cs → ∃ (e : TypeId), (w.setRow (ρ id) cur').heap[ρ id]? = some (.cells cur' e (0, 0)) ∧ cur'.size = cs.length ∧
      ∀ (k : Nat) (x : AV), cs[k]? = some x → (cur'.getD k undef).oneCell' = true ∧ Rep ρ (H.set id o') (w.setRow (ρ id) cur') x (cur'.getD k undef))
    (harr : ∀ g e sz els, o' = .arr g e sz els → (∀ x, x ∈ els → x.cells.length = sz) ∧ (els ≠ [] →
      ∃ (cap : Nat), (w.setRow (ρ id) cur').heap[ρ id]? = some (.cells cur' e (0, 0)) ∧ els.length ≤ cap ∧ cap ≤ maxLen ∧ cur'.size = cap * sz ∧
        ∀ (k : Nat) (x : AV), (flat els)[k]? = some x → (cur'.getD k undef).oneCell' = true ∧ Rep ρ (H.set id o') (w.setRow (ρ id) cur') x (cur'.getD k undef)))
    (hloop : ∀ st pend T ps asg body, o' ≠ .loop st pend T ps asg body := by intro _ _ _ _ _ _ hx; cases hx) :
    HeapOK ρ (H.set id o') (w.setRow (ρ id) cur') := by
  have live_of : ∀ (j : Nat) (p : AObj), (H.set id o')[j]? = some p → p.live → ∃ q : AObj, H[j]? = some q ∧ q.live := by
    intro j p hp hpl
    by_cases hij : id = j
    · subst hij; exact ⟨o, ho, hl⟩
    · rw [get_set_ne hij] at hp; exact ⟨p, hp, hpl⟩
  have other : ∀ (j : Nat) (p : AObj), id ≠ j → H[j]? = some p → p.live → (w.setRow (ρ id) cur').heap[ρ j]? = w.heap[ρ j]? := by
    intro j p hij hp hpl
    exact setRow_other w _ _ cur' (fun hx => hij (hh.inj j id p o hp hpl ho hl hx).symm)
  refine ⟨?_, ?_, ?_, ?_⟩
  · intro i j p q hp hpl hq hql hij
    obtain ⟨p', hp', hpl'⟩ := live_of i p hp hpl
    obtain ⟨q', hq', hql'⟩ := live_of j q hq hql
    exact hh.inj i j p' q' hp' hpl' hq' hql' hij
  · intro j cs hj
    by_cases hij : id = j
    · subst hij
      rw [get_set_self ho] at hj
      cases hj
      obtain ⟨e, h1, h2, h3⟩ := hvar cs rfl
      exact ⟨cur', e, h1, h2, h3⟩
    · rw [get_set_ne hij] at hj
      obtain ⟨cur, e, h1, h2, h3⟩ := hh.var j cs hj
      exact ⟨cur, e, by rw [other j _ hij hj trivial]; exact h1, h2, fun k x hk => ⟨(h3 k x hk).1, (h3 k x hk).2.mono hext⟩⟩
  · intro j g e sz els hj
    by_cases hij : id = j
    · subst hij
      rw [get_set_self ho] at hj
      cases hj
      obtain ⟨h1, h2⟩ := harr g e sz els rfl
      refine ⟨h1, fun hne => ?_⟩
      obtain ⟨cap, h3, h4, h5, h6, h7⟩ := h2 hne
      exact ⟨cur', cap, h3, h4, h5, h6, h7⟩
    · rw [get_set_ne hij] at hj
      obtain ⟨h1, h2⟩ := hh.arr j g e sz els hj
      refine ⟨h1, fun hne => ?_⟩
      obtain ⟨cur, cap, h3, h4, h5, h6, h7⟩ := h2 hne
      exact ⟨cur, cap, by rw [other j _ hij hj hne]; exact h3, h4, h5, h6, fun k x hk => ⟨(h7 k x hk).1, (h7 k x hk).2.mono hext⟩⟩
  · intro j st pend T ps asg body hj
    by_cases hij : id = j
    · subst hij
      rw [get_set_self ho] at hj
      cases hj
      exact absurd rfl (hloop st pend T ps asg body)
    · rw [get_set_ne hij] at hj
      obtain ⟨fn, D, tmps, h1, h2, h3⟩ := hh.loop j st pend T ps asg body hj
      exact ⟨fn, D, tmps, by rw [other j _ hij hj trivial]; exact h1, h2, fun k x hk => (h3 k x hk).mono hext⟩

/-! ## a new object -/
def nu (ρ : Nat → Nat) (n b : Nat) : Nat → Nat := fun i => if i = n then b else ρ i

theorem nu_self (ρ : Nat → Nat) (n b : Nat) : nu ρ n b n = b := by simp [nu]
theorem nu_lt (ρ : Nat → Nat) {n b i : Nat} (h : i < n) : nu ρ n b i = ρ i := by unfold nu; rw [if_neg (by omega)]

theorem get_push_lt {H : List AObj} {id : Nat} {o p : AObj} (h : H[id]? = some o) : (H ++ [p])[id]? = some o := by
  rw [List.getElem?_append_left (lt_of_get h)]; exact h

theorem get_push {H : List AObj} {id : Nat} {o p : AObj} (h : (H ++ [p])[id]? = some o) : (id < H.length ∧ H[id]? = some o) ∨ (id = H.length ∧ p = o) := by
  rcases Nat.lt_or_ge id H.length with hl | hl
  · rw [List.getElem?_append_left hl] at h; exact .inl ⟨hl, h⟩
  · rw [List.getElem?_append_right hl] at h
    match hd : id - H.length, h with
    | 0, h => simp only [List.getElem?_cons_zero, Option.some.injEq] at h; exact .inr ⟨by omega, h⟩
    | k + 1, h => simp at h

/-- World w' is w with more blocks, the new object's block n among them. -/
theorem ext_push {ρ : Nat → Nat} {H : List AObj} {w w' : World} {p : AObj} {b : Nat} (hh : HeapOK ρ H w) (hb : w.heap.size ≤ b)
    (hos : w'.os = w.os) (htape : w'.tape = w.tape) (hout : w'.output = w.output) (hsize : w.heap.size ≤ w'.heap.size) (hmem : ∀ k, k < w.heap.size → w'.heap[k]? = w.heap[k]?) :
    Ext H.length ρ H w (nu ρ H.length b) (H ++ [p]) w' := by
  refine ⟨hos, htape, hout, hsize, fun k hk _ => hmem k hk, ?_, ?_⟩
  · rintro k ⟨j, q, hq, hql, rfl⟩
    rcases get_push hq with ⟨hl, hq'⟩ | ⟨rfl, rfl⟩
    · rw [nu_lt ρ hl]; exact .inl ⟨j, q, hq', hql, rfl⟩
    · rw [nu_self]; exact .inr hb
  · intro j q hj hq
    refine ⟨q, get_push_lt hq, ?_⟩
    have hn := nu_lt ρ (b := b) hj
    cases q with
    | var cs => exact .var cs cs rfl hn
    | arr g e sz els =>
      refine .arr g e sz els els rfl hn (fun _ cur e1 h1 => ⟨cur, ?_, rfl⟩)
      have hlt : ρ j < w.heap.size := by
        rcases Nat.lt_or_ge (ρ j) w.heap.size with h' | h'
        · exact h'
        · simp [Array.getElem?_eq_none h'] at h1
      rw [hmem _ hlt]
      exact h1
    | loop st pend T ps asg body => exact .loop st st pend pend T ps asg body hn
    | dead => exact .dead

theorem heapOK_push {ρ : Nat → Nat} {H : List AObj} {w w' : World} {p : AObj} {b : Nat} (hh : HeapOK ρ H w) (hb : w.heap.size ≤ b)
    (hmem : ∀ k, k < w.heap.size → w'.heap[k]? = w.heap[k]?) (hext : Ext H.length ρ H w (nu ρ H.length b) (H ++ [p]) w')
    (hvar : ∀ cs, p = .var cs → ∃ (cur : Array Value) (e : TypeId), w'.heap[b]? = some (.cells cur e (0, 0)) ∧ cur.size = cs.length ∧
      ∀ (k : Nat) (x : AV), cs[k]? = some x → (cur.getD k undef).oneCell' = true ∧ Rep ρ H w x (cur.getD k undef))
    (harr : ∀ g e sz els, p = .arr g e sz els → (∀ x, x ∈ els → x.cells.length = sz) ∧ (els ≠ [] →
      ∃ (cur : Array Value) (cap : Nat), w'.heap[b]? = some (.cells cur e (0, 0)) ∧ els.length ≤ cap ∧ cap ≤ maxLen ∧ cur.size = cap * sz ∧
        ∀ (k : Nat) (x : AV), (flat els)[k]? = some x → (cur.getD k undef).oneCell' = true ∧ Rep ρ H w x (cur.getD k undef)))
    (hloop : ∀ st pend T ps asg body, p = .loop st pend T ps asg body → ∃ (fn D : Nat) (tmps : Array Value), w'.heap[b]? = some (.loop { state := st, pending := pend, fn := fn, tmps := tmps, params := ps, assign := asg, body := body, defers := D }) ∧
      tmps.size = T.length ∧ ∀ (k : Nat) (x : AV), T[k]? = some x → Rep ρ H w x (tmps.getD k undef) := by intro _ _ _ _ _ _ hx; cases hx) :
    HeapOK (nu ρ H.length b) (H ++ [p]) w' := by
  have oldlt : ∀ (j : Nat) (q : AObj), H[j]? = some q → q.live → ρ j < w.heap.size := fun j q hq hql => hh.lt ⟨j, q, hq, hql, rfl⟩
  refine ⟨?_, ?_, ?_, ?_⟩
  · intro i j q r hq hql hr hrl hij
    rcases get_push hq with ⟨hl, hq'⟩ | ⟨rfl, rfl⟩
    · rcases get_push hr with ⟨hl2, hr'⟩ | ⟨rfl, rfl⟩
      · rw [nu_lt ρ hl, nu_lt ρ hl2] at hij
        exact hh.inj i j q r hq' hql hr' hrl hij
      · rw [nu_lt ρ hl, nu_self] at hij
        have := oldlt i q hq' hql
        omega
    · rcases get_push hr with ⟨hl2, hr'⟩ | ⟨rfl, rfl⟩
      · rw [nu_lt ρ hl2, nu_self] at hij
        have := oldlt j r hr' hrl
        omega
      · rfl
  · intro j cs hj
    rcases get_push hj with ⟨hl, hj'⟩ | ⟨rfl, rfl⟩
    · obtain ⟨cur, e, h1, h2, h3⟩ := hh.var j cs hj'
      rw [nu_lt ρ hl]
      exact ⟨cur, e, by rw [hmem _ (oldlt j _ hj' trivial)]; exact h1, h2, fun k x hk => ⟨(h3 k x hk).1, (h3 k x hk).2.mono hext⟩⟩
    · obtain ⟨cur, e, h1, h2, h3⟩ := hvar cs rfl
      rw [nu_self]
      exact ⟨cur, e, h1, h2, fun k x hk => ⟨(h3 k x hk).1, (h3 k x hk).2.mono hext⟩⟩
  · intro j g e sz els hj
    rcases get_push hj with ⟨hl, hj'⟩ | ⟨rfl, rfl⟩
    · obtain ⟨h1, h2⟩ := hh.arr j g e sz els hj'
      refine ⟨h1, fun hne => ?_⟩
      obtain ⟨cur, cap, h3, h4, h5, h6, h7⟩ := h2 hne
      rw [nu_lt ρ hl]
      exact ⟨cur, cap, by rw [hmem _ (oldlt j _ hj' hne)]; exact h3, h4, h5, h6, fun k x hk => ⟨(h7 k x hk).1, (h7 k x hk).2.mono hext⟩⟩
    · obtain ⟨h1, h2⟩ := harr g e sz els rfl
      refine ⟨h1, fun hne => ?_⟩
      obtain ⟨cur, cap, h3, h4, h5, h6, h7⟩ := h2 hne
      rw [nu_self]
      exact ⟨cur, cap, h3, h4, h5, h6, fun k x hk => ⟨(h7 k x hk).1, (h7 k x hk).2.mono hext⟩⟩
  · intro j st pend T ps asg body hj
    rcases get_push hj with ⟨hl, hj'⟩ | ⟨rfl, rfl⟩
    · obtain ⟨fn, D, tmps, h1, h2, h3⟩ := hh.loop j st pend T ps asg body hj'
      rw [nu_lt ρ hl]
      exact ⟨fn, D, tmps, by rw [hmem _ (oldlt j _ hj' trivial)]; exact h1, h2, fun k x hk => (h3 k x hk).mono hext⟩
    · obtain ⟨fn, D, tmps, h1, h2, h3⟩ := hloop st pend T ps asg body rfl
      rw [nu_self]
      exact ⟨fn, D, tmps, h1, h2, fun k x hk => (h3 k x hk).mono hext⟩

theorem heap_push_old (w : World) (o : Obj) {k : Nat} (h : k < w.heap.size) : (w.alloc o).heap[k]? = w.heap[k]? := Below.heap_alloc w o k h

theorem heap_push_new (w : World) (o : Obj) : (w.alloc o).heap[w.heap.size]? = some o := by
  show (w.heap.push o)[w.heap.size]? = some o
  simp

/-- A variable with these cells is made. -/
theorem yield_var {P : Program} {ρ : Nat → Nat} {H : List AObj} {w : World} {K : AV → List AObj → Prop} {e : TypeId} {x : AV} {v : Value} {s : Sem Value}
    (hh : HeapOK ρ H w) (hx : Rep ρ H w x v) (hs : storable x = true) (hrun : s.run P w = .ok (.pointer (some ⟨w.heap.size, 0, none⟩)) (w.alloc (.cells v.cells e)))
    (hK : K (.ptr H.length 0) (H ++ [.var x.cells])) : Yield P s ρ H w K := by
  obtain ⟨hsz, hcells⟩ := hx.cells hs
  have hext := ext_push (w' := w.alloc (.cells v.cells e)) (p := .var x.cells) (b := w.heap.size) hh (Nat.le_refl _) rfl rfl rfl (by simp) (fun k hk => heap_push_old w _ hk)
  refine ⟨_, _, _, _, nu ρ H.length w.heap.size, hrun, hK, ?_, ?_, hext⟩
  · have := Rep.ptr (ρ := nu ρ H.length w.heap.size) (H := H ++ [.var x.cells]) (w := w.alloc (.cells v.cells e)) H.length 0 x.cells (by rw [List.getElem?_append_right (Nat.le_refl _)]; simp)
    rwa [nu_self] at this
  · exact heapOK_push hh (Nat.le_refl _) (fun k hk => heap_push_old w _ hk) hext
      (fun cs hc => by cases hc; exact ⟨v.cells, e, heap_push_new w _, hsz, hcells⟩) (fun g e1 sz els hc => by cases hc)

def kAlloc (P : Program) (e : TypeId) (H : List AObj) (K : AV → List AObj → Prop) : Prop :=
  match zeroV P e with
  | some z => storable z = true ∧ K (.ptr H.length 0) (H ++ [.var z.cells])
  | none => False

theorem zeroV_run {P : Program} {e : TypeId} {z : AV} (h : zeroV P e = some z) (ρ : Nat → Nat) (H : List AObj) (w : World) :
    ∃ v, (zeroValue e).run P w = .ok v w ∧ Rep ρ H w z v := by
  unfold zeroV at h
  split at h
  · rename_i i hi
    split at h
    · rename_i v hv
      cases h
      exact ⟨v, by simp [zeroValue, typeInfo, hi, hv], rep_cv ρ H w v⟩
    · cases h
  · cases h

theorem kAlloc_sound {P : Program} {e : TypeId} {H : List AObj} {K : AV → List AObj → Prop} {ρ : Nat → Nat} {w : World}
    (h : kAlloc P e H K) (hh : HeapOK ρ H w) : Yield P (Instr.alloc e true (.tuple #[])) ρ H w K := by
  unfold kAlloc at h
  split at h
  · rename_i z hz
    obtain ⟨v, hv, hrep⟩ := zeroV_run hz ρ H w
    refine yield_var (e := e) hh hrep h.1 ?_ h.2
    simp [Instr.alloc, hv, newVar, newRow]
  · exact h.elim

def kBox (x : AV) (H : List AObj) (K : AV → List AObj → Prop) : Prop := storable x = true ∧ K (.ptr H.length 0) (H ++ [.var x.cells])

theorem kBox_sound {P : Program} {e : TypeId} {H : List AObj} {K : AV → List AObj → Prop} {ρ : Nat → Nat} {w : World} {x : AV} {v : Value}
    (h : kBox x H K) (hx : Rep ρ H w x v) (hh : HeapOK ρ H w) : Yield P (Instr.box e v) ρ H w K := by
  refine yield_var (e := e) hh hx h.1 ?_ h.2
  simp [Instr.box, newVar, newRow]

/-! ## store -/
def reagg : AV → List AV → AV
  | .agg _, cs => .agg cs
  | _, c :: _ => c
  | _, [] => .junk

def kStore (P : Program) (t : TypeId) (H : List AObj) (x : AV) (K : List AObj → Prop) : AV → Prop
  | .ptr id off =>
    match hget H id with
    | some (.var cs) => storable x = true ∧ (tc P t).map (·.2) = some x.cells.length ∧ off + x.cells.length ≤ cs.length ∧ K (hset H id (.var (spl cs off x.cells)))
    | _ => False
  | .eptr id g i off =>
    match hget H id with
    | some (.arr g' e sz els) => g = g' ∧ i < els.length ∧ storable x = true ∧ (tc P t).map (·.2) = some x.cells.length ∧ off + x.cells.length ≤ (look els i).cells.length ∧
        (reagg (look els i) (spl (look els i).cells off x.cells)).cells = spl (look els i).cells off x.cells ∧
        K (hset H id (.arr g e sz (els.set i (reagg (look els i) (spl (look els i).cells off x.cells)))))
    | _ => False
  | _ => False

/-- What a store comes to. -/
def YieldU (P : Program) (s : Sem Unit) (ρ : Nat → Nat) (H : List AObj) (w : World) (K : List AObj → Prop) : Prop :=
  ∃ (w' : World) (H' : List AObj) (ρ' : Nat → Nat), s.run P w = .ok () w' ∧ K H' ∧ HeapOK ρ' H' w' ∧ Ext H.length ρ H w ρ' H' w'

theorem spl_append {α : Type} (a l new : List α) (k : Nat) : spl (a ++ l) (a.length + k) new = a ++ spl l k new := by
  unfold spl
  have h1 : (a ++ l).take (a.length + k) = a ++ l.take k := by
    rw [List.take_append, List.take_of_length_le (by omega)]
    congr 2
    omega
  have h2 : (a ++ l).drop (a.length + k + new.length) = l.drop (k + new.length) := by
    rw [List.drop_append, List.drop_eq_nil_of_le (by omega), List.nil_append]
    congr 1
    omega
  rw [h1, h2]
  simp only [List.append_assoc]

theorem flat_set {els : List AV} {sz : Nat} (h : ∀ x, x ∈ els → x.cells.length = sz) {i off : Nat} {y : AV} {new : List AV} (hi : i < els.length)
    (hfit : off + new.length ≤ (look els i).cells.length) (hy : y.cells = spl (look els i).cells off new) : flat (els.set i y) = spl (flat els) (i * sz + off) new := by
  induction els generalizing i with
  | nil => simp at hi
  | cons x els ih =>
    have hx : x.cells.length = sz := h x (by simp)
    cases i with
    | zero =>
      simp only [look] at hfit hy
      simp only [List.set_cons_zero, flat, List.flatMap_cons, hy, Nat.zero_mul, Nat.zero_add]
      simp only [spl, List.append_assoc]
      rw [List.take_append_of_le_length (by omega), List.drop_append_of_le_length (by omega)]
    | succ i =>
      have := ih (fun z hz => h z (by simp [hz])) (i := i) (by simpa using hi) (by simpa [look] using hfit) (by simpa [look] using hy)
      simp only [List.set_cons_succ, flat, List.flatMap_cons]
      simp only [flat] at this
      rw [this]
      have e1 : (i + 1) * sz + off = x.cells.length + (i * sz + off) := by rw [Nat.add_mul, hx]; omega
      rw [e1, spl_append]

theorem kStore_sound {P : Program} {t : TypeId} {H : List AObj} {K : List AObj → Prop} {x p : AV} {v pv : Value} {ρ : Nat → Nat} {w : World}
    (h : kStore P t H x K p) (hx : Rep ρ H w x v) (hp : Rep ρ H w p pv) (hh : HeapOK ρ H w) : YieldU P (Instr.storeAt t pv v) ρ H w K := by
  have sizes : ∀ n, (tc P t).map (·.2) = some n → (sizeOf t).run P w = .ok n w := by
    intro n hn
    cases htc : tc P t with
    | none => rw [htc] at hn; cases hn
    | some gn =>
      obtain ⟨g, n'⟩ := gn
      rw [htc] at hn
      cases hn
      exact (tc_isAgg htc w).2
  cases hp <;> simp only [kStore] at h <;> try (exact h.elim)
  case ptr id off cs hid =>
    rw [show hget H id = some (.var cs) from hid] at h
    simp only [] at h
    obtain ⟨hs, htc, hfit, hK⟩ := h
    obtain ⟨hvs, hcells⟩ := hx.cells hs
    obtain ⟨cur, e, hc, hsz, hold⟩ := hh.var id cs hid
    have hst := run_storeCells_at P (ρ id) off e v.cells.toList 0 cur w hc (by simp; omega) (fun u hu => by
      obtain ⟨k, hk, rfl⟩ := List.getElem_of_mem hu
      have hk' : k < x.cells.length := by simpa [hvs] using hk
      have := (hcells k _ (List.getElem?_eq_getElem hk')).1
      simpa [Array.getD_eq_getD_getElem?, show k < v.cells.size by omega] using this)
    rw [Nat.add_zero] at hst
    let cur' : Array Value := (spl cur.toList off v.cells.toList).toArray
    have hcur' : cur'.size = cur.size := by
      show (spl cur.toList off v.cells.toList).toArray.size = _
      rw [List.size_toArray, spl_length _ _ _ (by simp; omega)]
      simp
    have hext := ext_write (o' := .var (spl cs off x.cells)) (cur' := cur') hid trivial hc hcur' (.var _ _ (spl_length _ _ _ hfit) rfl)
    refine ⟨w.setRow (ρ id) cur', _, ρ, ?_, hK, ?_, hext⟩
    · have hn : (v.cells.size ≠ x.cells.length) = False := by simp [hvs]
      simp only [Instr.storeAt, Instr.sureAddr, storeVar, Sem.run_bind, Sem.run_pure, Result.andThen_ok, sizes _ htc, hn, if_false]
      exact hst
    · refine heapOK_write hh hid trivial hext ?_ (fun g e1 sz els hc1 => by cases hc1)
      intro cs' hcs'
      cases hcs'
      refine ⟨e, setRow_heap w _ cur cur' e (0, 0) hc, by rw [hcur', hsz, spl_length _ _ _ hfit], ?_⟩
      have h1 := spl_rel (R := fun x v => v.oneCell' = true ∧ Rep ρ H w x v) (cs := cs) (new := x.cells) (cur := cur) (vs := v.cells.toList) (off := off) (by omega) (by simpa using hvs) hfit hold
        (fun k y hk => by have := hcells k y hk; simpa [arr_getD] using this)
      intro k y hk
      have := h1 k y hk
      exact ⟨this.1, this.2.mono hext⟩
  case eptr id g i off e sz els hid hne =>
    rw [show hget H id = some (.arr g e sz els) from hid] at h
    simp only [] at h
    obtain ⟨_, hi, hs, htc, hfit, hre, hK⟩ := h
    obtain ⟨hvs, hcells⟩ := hx.cells hs
    obtain ⟨hlen, hc⟩ := hh.arr id g e sz els hid
    obtain ⟨cur, cap, hc, hcap, hmx, hsz, hold⟩ := hc hne
    have hlook : (look els i).cells.length = sz := hlen _ (look_mem hi)
    have hfl := flat_length hlen
    have hmul : (i + 1) * sz ≤ els.length * sz := Nat.mul_le_mul_right _ hi
    have hmul2 : els.length * sz ≤ cap * sz := Nat.mul_le_mul_right _ hcap
    rw [Nat.add_mul] at hmul
    have hfit2 : i * sz + off + x.cells.length ≤ (flat els).length := by omega
    have hst := run_storeCells_at P (ρ id) (i * sz + off) e v.cells.toList 0 cur w hc (by simp; omega) (fun u hu => by
      obtain ⟨k, hk, rfl⟩ := List.getElem_of_mem hu
      have hk' : k < x.cells.length := by simpa [hvs] using hk
      have := (hcells k _ (List.getElem?_eq_getElem hk')).1
      simpa [Array.getD_eq_getD_getElem?, show k < v.cells.size by omega] using this)
    rw [Nat.add_zero] at hst
    let cur' : Array Value := (spl cur.toList (i * sz + off) v.cells.toList).toArray
    have hcur' : cur'.size = cur.size := by
      show (spl cur.toList (i * sz + off) v.cells.toList).toArray.size = _
      rw [List.size_toArray, spl_length _ _ _ (by simp; omega)]
      simp
    let y : AV := reagg (look els i) (spl (look els i).cells off x.cells)
    have hshape : SameShape w (w.setRow (ρ id) cur') (ρ id) := by
      intro c1 e1 h1
      rw [hc] at h1
      cases h1
      exact ⟨cur', setRow_heap w _ cur cur' e (0, 0) hc, hcur'⟩
    have hext := ext_write (o' := .arr g e sz (els.set i y)) (cur' := cur') hid hne hc hcur' (.arr g e sz els _ (by simp) rfl (fun _ => hshape))
    refine ⟨w.setRow (ρ id) cur', _, ρ, ?_, hK, ?_, hext⟩
    · have hn : (v.cells.size ≠ x.cells.length) = False := by simp [hvs]
      simp only [Instr.storeAt, Instr.sureAddr, storeVar, Sem.run_bind, Sem.run_pure, Result.andThen_ok, sizes _ htc, hn, if_false]
      exact hst
    · refine heapOK_write hh hid hne hext (fun cs hc1 => by cases hc1) ?_
      intro g1 e1 sz1 els1 hc1
      cases hc1
      have hylen : y.cells.length = sz := by
        show (reagg (look els i) (spl (look els i).cells off x.cells)).cells.length = sz
        rw [hre, spl_length _ _ _ hfit, hlook]
      refine ⟨?_, fun _ => ⟨cap, setRow_heap w _ cur cur' e (0, 0) hc, by simpa using hcap, hmx, by rw [hcur', hsz], ?_⟩⟩
      · intro z hz
        rcases List.mem_or_eq_of_mem_set hz with hz | hz
        · exact hlen z hz
        · rw [hz]; exact hylen
      · have hfs := flat_set hlen (i := i) (off := off) (y := y) (new := x.cells) hi hfit hre
        rw [hfs]
        have h1 := spl_rel (R := fun x v => v.oneCell' = true ∧ Rep ρ H w x v) (cs := flat els) (new := x.cells) (cur := cur) (vs := v.cells.toList) (off := i * sz + off) (by omega) (by simpa using hvs) hfit2 hold
          (fun k z hk => by have := hcells k z hk; simpa [arr_getD] using this)
        intro k z hk
        have := h1 k z hk
        exact ⟨this.1, this.2.mono hext⟩
  case eptr_stale id g i off a hs =>
    rcases hs with ⟨g', e, sz, els, h1, h2⟩ | h1
    · rw [show hget H id = some (.arr g' e sz els) from h1] at h
      simp only [] at h
      omega
    · rw [show hget H id = some .dead from h1] at h
      exact h.elim

end Go.Proofs.Ytamoclnnakdiaaa.Abs
