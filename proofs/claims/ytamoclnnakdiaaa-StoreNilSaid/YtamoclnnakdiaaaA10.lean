/-
  Regions whose order Go leaves open: what holds in the text's order holds in each.
  Conditions: none.
-/
import Derived.Test.YtamoclnnakdiaaaA9
namespace Go.Proofs.Ytamoclnnakdiaaa.Abs
open Go Go.RowKit
set_option linter.unusedVariables false
set_option linter.unusedSimpArgs false

def edgesOf (o : Oper) : List Nat := (o.after.toList.filter (fun e => Region.binds .any e)).map (·.on)

/-- What stands ahead of each operation, as the bits of a number. -/
def ancM (ops : Array Oper) : List Nat := ops.toList.foldl (fun acc o => acc ++ [(edgesOf o).foldl (fun m j => Nat.lor (Nat.lor m (Nat.shiftLeft 1 j)) (acc.getD j 0)) 0]) []

/-- What stands ahead of each operation. -/
def ancs (ops : Array Oper) : List (List Nat) := (ancM ops).map fun m => (List.range ops.size).filter fun j => Nat.beq (Nat.land (Nat.shiftRight m j) 1) 1

def slotsOf (ops : Array Oper) (o : Oper) : List Nat :=
  (o.op.operands.toList.filterMap fun | .tmp t => some t | _ => none) ++
  (match o.guard with
   | some (g, _) => ((ops[g]?).bind (·.dst)).toList
   | none => [])

/-- Is the order of no account? E: the operations that turn the heap, one behind the other. -/
def drawOK (ops : Array Oper) (E : List Nat) : Bool :=
  let A := ancs ops
  ((List.range ops.size).all fun i =>
    match ops[i]? with
    | some o =>
      (edgesOf o).all (fun j => decide (j < i)) &&
      (A.getD i []).all (fun j => (edgesOf o).any (fun e => e == j || (A.getD e []).contains j)) &&
      (slotsOf ops o).all (fun t => (List.range ops.size).all fun j => match ops[j]? with | some p => p.dst != some t || (edgesOf o).contains j | none => true) &&
      (List.range ops.size).all (fun j => match ops[j]?, o.dst with | some p, some d => i == j || p.dst != some d | _, _ => true)
    | none => true) &&
  E.all (fun e => decide (e < ops.size)) &&
  ((List.range E.length).all fun b => (List.range b).all fun a => (A.getD (E.getD b 0) []).contains (E.getD a 0))

/-- The same, but an operation may put a slot that one ahead of it has read. -/
def drawOKL (ops : Array Oper) (E : List Nat) : Bool :=
  let A := ancs ops
  ((List.range ops.size).all fun i =>
    match ops[i]? with
    | some o =>
      (edgesOf o).all (fun j => decide (j < i)) &&
      (A.getD i []).all (fun j => (edgesOf o).any (fun e => e == j || (A.getD e []).contains j)) &&
      (slotsOf ops o).all (fun t => (List.range ops.size).all fun j => match ops[j]? with | some p => p.dst != some t || (edgesOf o).contains j || (A.getD j []).contains i | none => true) &&
      (List.range ops.size).all (fun j => match ops[j]?, o.dst with | some p, some d => i == j || p.dst != some d | _, _ => true)
    | none => true) &&
  E.all (fun e => decide (e < ops.size)) &&
  ((List.range E.length).all fun b => (List.range b).all fun a => (A.getD (E.getD b 0) []).contains (E.getD a 0))

/-- Between how many of E a quiet operation may stand. -/
def loE (ops : Array Oper) (E : List Nat) (i : Nat) : Nat := (E.filter fun e => ((ancs ops).getD i []).contains e).length
def hiE (ops : Array Oper) (E : List Nat) (i : Nat) : Nat := (E.filter fun e => !((ancs ops).getD e []).contains i).length

def dstIs (o : Oper) (Tf : List AV) (v : AV) : Prop :=
  match o.dst with
  | some d => look Tf d = v
  | none => True

/-- What is asked of operation i, with the slots Tv as it sees them, and Tf as they are in the end. -/
def chkV (P : Program) (ops : Array Oper) (E : List Nat) (hs : List (List AObj)) (Tf Tv : List AV) (i : Nat) (o : Oper) : Prop :=
  guardK (wantedA ops Tv o)
    (∃ v, dstIs o Tf v ∧
     match E.findIdx? (· == i) with
     | some k => oneK P o Tv (hs.getD k []) (fun x H' => x = v ∧ H' = hs.getD (k + 1) []) (fun _ _ => False)
     | none => ∀ k, loE ops E i ≤ k → k ≤ hiE ops E i → oneK P o Tv (hs.getD k []) (fun x H' => x = v ∧ H' = hs.getD k []) (fun _ _ => False))
    (dstIs o Tf (.tuple []) ∧ E.findIdx? (· == i) = none)
/-- What is asked of operation i, with the slots as they are in the end. -/
abbrev chkOne (P : Program) (ops : Array Oper) (E : List Nat) (hs : List (List AObj)) (Tf : List AV) (i : Nat) (o : Oper) : Prop := chkV P ops E hs Tf Tf i o

theorem opK_congr {P : Program} {op : Op} {T T' : List AV} {H : List AObj} {K : AV → List AObj → Prop} (h : ∀ x, x ∈ op.operands.toList → ev T x = ev T' x) (hk : opK P op T H K) : opK P op T' H K := by
  have hl : ∀ (l : List Operand), (∀ x, x ∈ l → ev T x = ev T' x) → l.map (ev T) = l.map (ev T') := fun l hl => List.map_congr_left hl
  have hp : ∀ (l : List (Nat × Operand)), (∀ p, p ∈ l → ev T p.2 = ev T' p.2) → l.map (fun p => (p.1, ev T p.2)) = l.map (fun p => (p.1, ev T' p.2)) :=
    fun l hl => List.map_congr_left (fun p hp => by rw [hl p hp])
  cases op <;> simp only [opK] at hk ⊢ <;> try (exact hk)
  case nilCheck x => rw [← h x (by simp [Op.operands])]; exact hk
  case move x => rw [← h x (by simp [Op.operands])]; exact hk
  case assign x => rw [← h x (by simp [Op.operands])]; exact hk
  case pick c a b =>
    rw [← h c (by simp [Op.operands]), ← h a (by simp [Op.operands]), ← h b (by simp [Op.operands])]
    exact hk
  case box e x => rw [← h x (by simp [Op.operands])]; exact hk
  case build t parts =>
    rw [← hp _ (fun p hm => h p.2 (by simp only [Op.operands, List.mem_map]; exact ⟨p, hm, rfl⟩))]
    exact hk
  case buildSlice t n parts =>
    rw [← hp _ (fun p hm => h p.2 (by simp only [Op.operands, List.mem_map]; exact ⟨p, hm, rfl⟩))]
    exact hk
  case load t x => rw [← h x (by simp [Op.operands])]; exact hk
  case store t a x => rw [← h a (by simp [Op.operands]), ← h x (by simp [Op.operands])]; exact hk
  case binOp op t x y yt => rw [← h x (by simp [Op.operands]), ← h y (by simp [Op.operands])]; exact hk
  case unOp op t x => rw [← h x (by simp [Op.operands])]; exact hk
  case convert s d x => rw [← h x (by simp [Op.operands])]; exact hk
  case makeInterface t x => rw [← h x (by simp [Op.operands])]; exact hk
  case makeFunc f first cap =>
    rw [← hl _ (fun x hx => h x (by simp only [Op.operands, Array.toList_append, List.mem_append]; exact .inl hx)), ← hl _ (fun x hx => h x (by simp only [Op.operands, Array.toList_append, List.mem_append]; exact .inr hx))]
    exact hk
  case slice t x lo hi mx =>
    have e1 : lo.map (ev T) = lo.map (ev T') := by cases lo <;> simp; exact h _ (by simp [Op.operands])
    have e2 : hi.map (ev T) = hi.map (ev T') := by cases hi <;> simp; exact h _ (by simp [Op.operands])
    have e3 : mx.map (ev T) = mx.map (ev T') := by cases mx <;> simp; exact h _ (by simp [Op.operands])
    rw [← h x (by simp [Op.operands]), ← e1, ← e2, ← e3]
    exact hk
  case fieldAddr s x f => rw [← h x (by simp [Op.operands])]; exact hk
  case field s x f => rw [← h x (by simp [Op.operands])]; exact hk
  case indexAddr t x i => rw [← h x (by simp [Op.operands]), ← h i (by simp [Op.operands])]; exact hk
  case index t x i => rw [← h x (by simp [Op.operands]), ← h i (by simp [Op.operands])]; exact hk
  case extract x i => rw [← h x (by simp [Op.operands])]; exact hk
  case call c =>
    obtain ⟨callee, args, ts⟩ := c
    cases callee <;> simp only at hk ⊢ <;> try (exact hk)
    rw [← hl args.toList (fun x hx => h x (by simp only [Op.operands, Call.operands, Array.toList_append, List.mem_append]; exact .inr hx))]
    exact hk

theorem oneK_congr {P : Program} {o : Oper} {T T' : List AV} {H : List AObj} {K X : AV → List AObj → Prop} (h : ∀ x, x ∈ o.op.operands.toList → ev T x = ev T' x) (hk : oneK P o T H K X) : oneK P o T' H K X := by
  unfold oneK at *
  split at hk
  · rename_i f args ts hop
    rw [hop] at h
    have hf := h f (by simp [Op.operands, Call.operands])
    have hl : args.toList.map (ev T) = args.toList.map (ev T') := List.map_congr_left (fun x hx => h x (by simp only [Op.operands, Call.operands, Array.toList_append, List.mem_append]; exact .inr hx))
    rw [← hf, ← hl]
    exact hk
  · exact opK_congr h hk

section
variable {P : Program} {ops : Array Oper} {E : List Nat} {hs : List (List AObj)} {T Tf : List AV}

structure DrawSt (ops : Array Oper) (E : List Nat) : Prop where
  lt : ∀ (i : Nat) (o : Oper), ops[i]? = some o → ∀ j, j ∈ edgesOf o → j < i
  just : ∀ (i : Nat) (o : Oper), ops[i]? = some o → ∀ j, j ∈ (ancs ops).getD i [] → ∃ e, e ∈ edgesOf o ∧ (e = j ∨ j ∈ (ancs ops).getD e [])
  slot : ∀ (i : Nat) (o : Oper), ops[i]? = some o → ∀ t, t ∈ slotsOf ops o → ∀ (j : Nat) (p : Oper), ops[j]? = some p → p.dst = some t → j ∈ edgesOf o
  uniq : ∀ (i j : Nat) (o p : Oper) (d : Nat), ops[i]? = some o → ops[j]? = some p → o.dst = some d → p.dst = some d → i = j
  chain : ∀ (a b : Nat), a < b → b < E.length → E.getD a 0 ∈ (ancs ops).getD (E.getD b 0) []
  inb : ∀ e, e ∈ E → e < ops.size

theorem get_lt {i : Nat} {o : Oper} (h : ops[i]? = some o) : i < ops.size := by
  rcases Nat.lt_or_ge i ops.size with h' | h'
  · exact h'
  · simp [Array.getElem?_eq_none h'] at h

theorem drawOK_spec (h : drawOK ops E = true) : DrawSt ops E := by
  unfold drawOK at h
  simp only [Bool.and_eq_true, List.all_eq_true, List.mem_range, decide_eq_true_eq] at h
  obtain ⟨⟨h1, h2⟩, h3⟩ := h
  have key : ∀ (i : Nat) (o : Oper), ops[i]? = some o → _ := fun i o ho => by
    have := h1 i (get_lt ho)
    rw [ho] at this
    simp only [Bool.and_eq_true, List.all_eq_true, List.mem_range, decide_eq_true_eq, List.any_eq_true] at this
    exact this
  refine ⟨?_, ?_, ?_, ?_, ?_, h2⟩
  · intro i o ho j hj
    exact (key i o ho).1.1.1 j hj
  · intro i o ho j hj
    obtain ⟨e, he, hx⟩ := (key i o ho).1.1.2 j hj
    refine ⟨e, he, ?_⟩
    simp only [Bool.or_eq_true, beq_iff_eq, List.contains_iff_mem] at hx
    exact hx
  · intro i o ho t ht j p hp hd
    have := (key i o ho).1.2 t ht j (get_lt hp)
    rw [hp] at this
    simp only [hd, bne_self_eq_false, Bool.false_or, List.contains_iff_mem] at this
    exact this
  · intro i j o p d ho hp hod hpd
    have := (key i o ho).2 j (get_lt hp)
    rw [hp, hod] at this
    simp only [hpd, bne_self_eq_false, Bool.or_false, beq_iff_eq] at this
    exact this
  · intro a b hab hb
    have := h3 b hb a hab
    simpa [List.contains_iff_mem] using this

structure DrawL (ops : Array Oper) (E : List Nat) : Prop where
  lt : ∀ (i : Nat) (o : Oper), ops[i]? = some o → ∀ j, j ∈ edgesOf o → j < i
  just : ∀ (i : Nat) (o : Oper), ops[i]? = some o → ∀ j, j ∈ (ancs ops).getD i [] → ∃ e, e ∈ edgesOf o ∧ (e = j ∨ j ∈ (ancs ops).getD e [])
  slot : ∀ (i : Nat) (o : Oper), ops[i]? = some o → ∀ t, t ∈ slotsOf ops o → ∀ (j : Nat) (p : Oper), ops[j]? = some p → p.dst = some t → j ∈ edgesOf o ∨ i ∈ (ancs ops).getD j []
  uniq : ∀ (i j : Nat) (o p : Oper) (d : Nat), ops[i]? = some o → ops[j]? = some p → o.dst = some d → p.dst = some d → i = j
  chain : ∀ (a b : Nat), a < b → b < E.length → E.getD a 0 ∈ (ancs ops).getD (E.getD b 0) []
  inb : ∀ e, e ∈ E → e < ops.size

theorem DrawSt.loose (h : DrawSt ops E) : DrawL ops E := ⟨h.lt, h.just, fun i o ho t ht j p hp hd => .inl (h.slot i o ho t ht j p hp hd), h.uniq, h.chain, h.inb⟩

theorem drawOKL_spec (h : drawOKL ops E = true) : DrawL ops E := by
  unfold drawOKL at h
  simp only [Bool.and_eq_true, List.all_eq_true, List.mem_range, decide_eq_true_eq] at h
  obtain ⟨⟨h1, h2⟩, h3⟩ := h
  have key : ∀ (i : Nat) (o : Oper), ops[i]? = some o → _ := fun i o ho => by
    have := h1 i (get_lt ho)
    rw [ho] at this
    simp only [Bool.and_eq_true, List.all_eq_true, List.mem_range, decide_eq_true_eq, List.any_eq_true] at this
    exact this
  refine ⟨?_, ?_, ?_, ?_, ?_, h2⟩
  · intro i o ho j hj
    exact (key i o ho).1.1.1 j hj
  · intro i o ho j hj
    obtain ⟨e, he, hx⟩ := (key i o ho).1.1.2 j hj
    refine ⟨e, he, ?_⟩
    simp only [Bool.or_eq_true, beq_iff_eq, List.contains_iff_mem] at hx
    exact hx
  · intro i o ho t ht j p hp hd
    have := (key i o ho).1.2 t ht j (get_lt hp)
    rw [hp] at this
    simp only [hd, bne_self_eq_false, Bool.false_or, Bool.or_eq_true, List.contains_iff_mem] at this
    exact this
  · intro i j o p d ho hp hod hpd
    have := (key i o ho).2 j (get_lt hp)
    rw [hp, hod] at this
    simp only [hpd, bne_self_eq_false, Bool.or_false, beq_iff_eq] at this
    exact this
  · intro a b hab hb
    have := h3 b hb a hab
    simpa [List.contains_iff_mem] using this

theorem anc_lt (hd : DrawL ops E) : ∀ (i : Nat) (o : Oper), ops[i]? = some o → ∀ j, j ∈ (ancs ops).getD i [] → j < i := by
  intro i
  induction i using Nat.strongRecOn with
  | _ i ih =>
    intro o ho j hj
    obtain ⟨e, hee, hx⟩ := hd.just i o ho j hj
    have hlt := hd.lt i o ho e hee
    rcases hx with rfl | hx
    · exact hlt
    · have hes : e < ops.size := by have := get_lt ho; omega
      have := ih e hlt _ (by simp [hes] : ops[e]? = some ops[e]) j hx
      omega

def Closed (ops : Array Oper) (listed : Array Bool) : Prop := ∀ (i : Nat) (o : Oper), ops[i]? = some o → listed.getD i true = true → ∀ j, j ∈ edgesOf o → listed.getD j false = true

theorem listed_anc (hd : DrawL ops E) {listed : Array Bool} (hc : Closed ops listed) (hsz : listed.size = ops.size) : ∀ (i : Nat) (o : Oper), ops[i]? = some o → (∀ j, j ∈ edgesOf o → listed.getD j false = true) → ∀ j, j ∈ (ancs ops).getD i [] → listed.getD j false = true := by
  intro i
  induction i using Nat.strongRecOn with
  | _ i ih =>
    intro o ho he j hj
    obtain ⟨e, hee, hx⟩ := hd.just i o ho j hj
    have hle := he e hee
    rcases hx with rfl | hx
    · exact hle
    · have hlt := hd.lt i o ho e hee
      have hes : e < ops.size := by have := get_lt ho; omega
      have hoe : ops[e]? = some ops[e] := by simp [hes]
      refine ih e hlt _ hoe (fun k hk => hc e _ hoe ?_ k hk) j hx
      have : e < listed.size := by omega
      simp only [Array.getD_eq_getD_getElem?, Array.getElem?_eq_getElem this, Option.getD_some] at hle ⊢
      exact hle

open Classical in
/-- Slots when those of listed have been carried out. -/
noncomputable def td (ops : Array Oper) (T Tf : List AV) (listed : Array Bool) (t : Nat) : AV :=
  if ∃ (j : Nat) (o : Oper), ops[j]? = some o ∧ o.dst = some t ∧ listed.getD j false = true then look Tf t else look T t

noncomputable def tdl (ops : Array Oper) (T Tf : List AV) (listed : Array Bool) : List AV := (List.range T.length).map (td ops T Tf listed)

theorem tdl_look (hlen : Tf.length = T.length) (listed : Array Bool) (t : Nat) : look (tdl ops T Tf listed) t = td ops T Tf listed t := by
  rw [look_eq, List.getD_eq_getElem?_getD]
  unfold tdl
  rw [List.getElem?_map]
  rcases Nat.lt_or_ge t T.length with h | h
  · rw [List.getElem?_range h]
    rfl
  · rw [List.getElem?_eq_none (by simpa using h)]
    unfold td
    simp only [Option.map_none, Option.getD_none]
    have h1 : look Tf t = .junk := by rw [look_eq, List.getD_eq_getElem?_getD, List.getElem?_eq_none (by omega)]; rfl
    have h2 : look T t = .junk := by rw [look_eq, List.getD_eq_getElem?_getD, List.getElem?_eq_none h]; rfl
    rw [h1, h2]
    simp

open Classical in
/-- The slots as operation o sees them: those that ones ahead of it put are as in the end, the others as in the beginning. -/
noncomputable def vw (ops : Array Oper) (T Tf : List AV) (o : Oper) : List AV :=
  (List.range T.length).map fun t => if ∃ (j : Nat) (p : Oper), ops[j]? = some p ∧ p.dst = some t ∧ j ∈ edgesOf o then look Tf t else look T t

open Classical in
theorem vw_look (hlen : Tf.length = T.length) (o : Oper) (t : Nat) : look (vw ops T Tf o) t = if ∃ (j : Nat) (p : Oper), ops[j]? = some p ∧ p.dst = some t ∧ j ∈ edgesOf o then look Tf t else look T t := by
  rw [look_eq, List.getD_eq_getElem?_getD]
  unfold vw
  rw [List.getElem?_map]
  rcases Nat.lt_or_ge t T.length with h | h
  · rw [List.getElem?_range h]
    rfl
  · rw [List.getElem?_eq_none (by simpa using h)]
    simp only [Option.map_none, Option.getD_none]
    have h1 : look Tf t = .junk := by rw [look_eq, List.getD_eq_getElem?_getD, List.getElem?_eq_none (by omega)]; rfl
    have h2 : look T t = .junk := by rw [look_eq, List.getD_eq_getElem?_getD, List.getElem?_eq_none h]; rfl
    rw [h1, h2]
    simp

def countE (E : List Nat) (listed : Array Bool) : Nat := (E.filter fun e => listed.getD e false).length

theorem filter_len_le {α : Type} {l : List α} {p q : α → Bool} (h : ∀ x, x ∈ l → p x = true → q x = true) : (l.filter p).length ≤ (l.filter q).length := by
  induction l with
  | nil => simp
  | cons x l ih =>
    have ih' := ih (fun y hy => h y (by simp [hy]))
    simp only [List.filter_cons]
    cases hp : p x with
    | true => rw [h x (by simp) hp]; simp; exact ih'
    | false => cases hq : q x <;> simp <;> omega

theorem wpAny_draw {Q : Exit → Act → World → Prop} {d0 : List Deferred} {r : Option Nat} (hd : DrawL ops E) (hlen : Tf.length = T.length) (hkeep : ∀ t, (∀ (j : Nat) (o : Oper), ops[j]? = some o → o.dst ≠ some t) → look Tf t = look T t)
    (hchk : ∀ (i : Nat) (o : Oper), ops[i]? = some o → chkV P ops E hs Tf (vw ops T Tf o) i o) (m : Nat) (ρ0 : Nat → Nat) (H0 : List AObj) (w0 : World) (hm : ∀ k, k ≤ E.length → m ≤ (hs.getD k []).length) (hnd : ∀ (x y : Nat), x < E.length → y < E.length → E.getD x 0 = E.getD y 0 → x = y)
    (hfin : ∀ (ρ : Nat → Nat) (w : World) (a : Act), RepL ρ (hs.getD E.length []) w Tf a.tmps → HeapOK ρ (hs.getD E.length []) w → a.defers = d0 → Ext m ρ0 H0 w0 ρ (hs.getD E.length []) w → Q .normal a w) :
    ∀ (fuel : Nat) (listed : Array Bool) (a : Act) (w : World) (ρ : Nat → Nat), listed.size = ops.size → Closed ops listed → ((List.range ops.size).filter fun i => !listed.getD i true).length = fuel →
      RepL ρ (hs.getD (countE E listed) []) w (tdl ops T Tf listed) a.tmps → HeapOK ρ (hs.getD (countE E listed) []) w → a.defers = d0 → Ext m ρ0 H0 w0 ρ (hs.getD (countE E listed) []) w →
      wpAnyIn (FR r) 0 P .any ops Q fuel listed a w := by
  have lg : ∀ {listed : Array Bool} {i : Nat}, listed.size = ops.size → i < ops.size → listed.getD i true = listed.getD i false := by
    intro listed i hsz hi
    have : i < listed.size := by omega
    simp [Array.getElem?_eq_getElem this]
  have fin : ∀ (listed : Array Bool) (a : Act) (w : World) (ρ : Nat → Nat), listed.size = ops.size → (∀ i, i < ops.size → listed.getD i false = true) →
      RepL ρ (hs.getD (countE E listed) []) w (tdl ops T Tf listed) a.tmps → HeapOK ρ (hs.getD (countE E listed) []) w → a.defers = d0 → Ext m ρ0 H0 w0 ρ (hs.getD (countE E listed) []) w → Q .normal a w := by
    intro listed a w ρ hsz hall hr hh hdf he
    have hce : countE E listed = E.length := by
      unfold countE
      rw [List.filter_eq_self.2 (fun e hee => hall e (hd.inb e hee))]
    rw [hce] at hr hh he
    have htd : tdl ops T Tf listed = Tf := by
      apply List.ext_getElem?
      intro t
      unfold tdl
      rw [List.getElem?_map]
      rcases Nat.lt_or_ge t T.length with h | h
      · rw [List.getElem?_range h, Option.map_some, List.getElem?_eq_getElem (by omega : t < Tf.length)]
        congr 1
        have hl : look Tf t = Tf[t]'(by omega) := by rw [look_eq, List.getD_eq_getElem?_getD, List.getElem?_eq_getElem (by omega : t < Tf.length)]; rfl
        unfold td
        split
        · exact hl
        · rename_i hno
          rw [← hl]
          refine (hkeep t (fun j o ho hdst => hno ⟨j, o, ho, hdst, hall j (get_lt ho)⟩)).symm
      · rw [List.getElem?_eq_none (by simpa using h), List.getElem?_eq_none (by omega)]
        rfl
    rw [htd] at hr
    exact hfin ρ w a hr hh hdf he
  have ready_spec : ∀ (listed : Array Bool) (i : Nat), i ∈ Region.ready .any ops listed ↔ i < ops.size ∧ listed.getD i true = false ∧ ∃ o, ops[i]? = some o ∧ ∀ j, j ∈ edgesOf o → listed.getD j false = true := by
    intro listed i
    unfold Region.ready
    simp only [List.mem_filter, List.mem_range, Bool.and_eq_true, Bool.not_eq_true']
    refine and_congr Iff.rfl (and_congr Iff.rfl ?_)
    cases ho : ops[i]? with
    | none => simp
    | some o =>
      simp only [Option.map_some, Option.getD_some, Array.all_eq_true_iff_forall_mem]
      constructor
      · intro h
        refine ⟨o, rfl, ?_⟩
        intro j hj
        obtain ⟨e, he, rfl⟩ := List.mem_map.1 hj
        obtain ⟨he1, he2⟩ := List.mem_filter.1 he
        have := h e (by simpa using he1)
        rw [he2] at this
        simpa using this
      · rintro ⟨o', ho', h⟩ e he
        cases ho'
        cases hb : Region.binds .any e with
        | false => rfl
        | true =>
          have := h e.on (List.mem_map.2 ⟨e, List.mem_filter.2 ⟨by simpa using he, hb⟩, rfl⟩)
          simp only [Bool.not_true, Bool.false_or]
          exact this
  have some_ready : ∀ (listed : Array Bool), listed.size = ops.size → Region.ready .any ops listed = [] → ∀ i, i < ops.size → listed.getD i false = true := by
    intro listed hsz h0 i
    induction i using Nat.strongRecOn with
    | _ i ih =>
      intro hi
      cases hl : listed.getD i false with
      | true => rfl
      | false =>
        exfalso
        have hoi : ops[i]? = some ops[i] := by simp [hi]
        have : i ∈ Region.ready .any ops listed := (ready_spec listed i).2 ⟨hi, by rw [lg hsz hi]; exact hl, _, hoi, fun j hj => by
          have hji := hd.lt i _ hoi j hj
          exact ih j hji (by omega)⟩
        rw [h0] at this
        cases this
  intro fuel
  induction fuel with
  | zero =>
    intro listed a w ρ hsz hc hf hr hh hdf he
    have hall : ∀ i, i < ops.size → listed.getD i false = true := by
      intro i hi
      have : i ∉ (List.range ops.size).filter fun i => !listed.getD i true := by
        rw [List.eq_nil_of_length_eq_zero hf]; simp
      simp only [List.mem_filter, List.mem_range, not_and, Bool.not_eq_true', Bool.not_eq_false] at this
      rw [← lg hsz hi]
      exact this hi
    refine ⟨?_, fin listed a w ρ hsz hall hr hh hdf he⟩
    refine List.eq_nil_iff_forall_not_mem.2 (fun i hi => ?_)
    obtain ⟨h1, h2, _⟩ := (ready_spec listed i).1 hi
    rw [lg hsz h1, hall i h1] at h2
    cases h2
  | succ fuel ih =>
    intro listed a w ρ hsz hc hf hr hh hdf he
    refine ⟨fun h0 => fin listed a w ρ hsz (some_ready listed hsz h0) hr hh hdf he, ?_⟩
    intro i hi
    obtain ⟨hilt, hinl, o, ho, hedges⟩ := (ready_spec listed i).1 hi
    have hinl' : listed.getD i false = false := by rw [← lg hsz hilt]; exact hinl
    have hancs := listed_anc hd hc hsz i o ho hedges
    -- the slots that it looks at are as in the end
    have hslot : ∀ t, t ∈ slotsOf ops o → look (tdl ops T Tf listed) t = look (vw ops T Tf o) t := by
      intro t ht
      rw [tdl_look hlen, vw_look hlen]
      unfold td
      by_cases hw : ∃ (j : Nat) (p : Oper), ops[j]? = some p ∧ p.dst = some t
      · obtain ⟨j, p, hp, hpd⟩ := hw
        have only : ∀ (j' : Nat) (p' : Oper), ops[j']? = some p' → p'.dst = some t → j' = j := fun j' p' hp' hpd' => hd.uniq j' j p' p t hp' hp hpd' hpd
        rcases hd.slot i o ho t ht j p hp hpd with he' | ha
        · rw [if_pos ⟨j, p, hp, hpd, hedges j he'⟩, if_pos ⟨j, p, hp, hpd, he'⟩]
        · have hno : listed.getD j false = true → False := fun hl => by
            have := listed_anc hd hc hsz j p hp (fun k hk => hc j p hp (by rw [lg hsz (get_lt hp)]; exact hl) k hk) i ha
            rw [hinl'] at this
            cases this
          rw [if_neg, if_neg]
          · rintro ⟨j', p', hp', hpd', he'⟩
            obtain rfl := only j' p' hp' hpd'
            exact hno (hedges j' he')
          · rintro ⟨j', p', hp', hpd', hl⟩
            obtain rfl := only j' p' hp' hpd'
            exact hno hl
      · rw [if_neg (fun ⟨j, p, hp, hpd, _⟩ => hw ⟨j, p, hp, hpd⟩), if_neg (fun ⟨j, p, hp, hpd, _⟩ => hw ⟨j, p, hp, hpd⟩)]
    have hops : ∀ x, x ∈ o.op.operands.toList → ev (vw ops T Tf o) x = ev (tdl ops T Tf listed) x := by
      intro x hx
      cases x with
      | tmp t => exact (hslot t (List.mem_append_left _ (List.mem_filterMap.2 ⟨_, hx, rfl⟩))).symm
      | const v => rfl
      | global g => rfl
      | func f => rfl
    have hwantEq : wantedA ops (tdl ops T Tf listed) o = wantedA ops (vw ops T Tf o) o := by
      unfold wantedA
      cases hg : o.guard with
      | none => rfl
      | some jw =>
        obtain ⟨j, want⟩ := jw
        simp only []
        cases hdj : (ops[j]?).bind (·.dst) with
        | none => rfl
        | some d =>
          simp only []
          rw [hslot d (List.mem_append_right _ (by rw [hg]; simp [hdj]))]
    -- the next state
    have hsz' : (listed.setIfInBounds i true).size = ops.size := by simp [hsz]
    have hget' : ∀ j, (listed.setIfInBounds i true).getD j false = if i = j then true else listed.getD j false := by
      intro j
      simp only [Array.getD_eq_getD_getElem?, Array.getElem?_setIfInBounds]
      by_cases hij : i = j
      · subst hij; simp [hsz, hilt]
      · simp [hij]
    have hget1 : ∀ j, j < ops.size → (listed.setIfInBounds i true).getD j true = if i = j then true else listed.getD j true := by
      intro j hj
      rw [lg hsz' hj, hget', lg hsz hj]
    have hc' : Closed ops (listed.setIfInBounds i true) := by
      intro j p hp hl k hk
      rw [hget']
      split
      · rfl
      · rw [hget1 j (get_lt hp)] at hl
        split at hl
        · rename_i hij
          subst hij
          rw [ho] at hp
          cases hp
          exact hedges k hk
        · exact hc j p hp hl k hk
    have hf' : ((List.range ops.size).filter fun j => !(listed.setIfInBounds i true).getD j true).length = fuel := by
      have h1 : ((List.range ops.size).filter fun j => !(listed.setIfInBounds i true).getD j true) = (((List.range ops.size).filter fun j => !listed.getD j true).filter fun j => j != i) := by
        rw [List.filter_filter]
        apply List.filter_congr
        intro j hj
        rw [hget1 j (List.mem_range.1 hj)]
        by_cases hij : i = j
        · subst hij; simp
        · have : (j != i) = true := by simp; omega
          simp [hij, this]
      rw [h1]
      have hnd' : ((List.range ops.size).filter fun j => !listed.getD j true).Nodup := List.Pairwise.filter _ List.nodup_range
      have hmem : i ∈ (List.range ops.size).filter fun j => !listed.getD j true := by simp [hilt, hinl']; simpa using hinl
      rw [← List.Nodup.erase_eq_filter hnd', List.length_erase_of_mem hmem]
      omega
    have htd' : ∀ (v : AV), dstIs o Tf v → put (tdl ops T Tf listed) o.dst v = tdl ops T Tf (listed.setIfInBounds i true) := by
      intro v hv
      have hother : ∀ t, o.dst ≠ some t → td ops T Tf (listed.setIfInBounds i true) t = td ops T Tf listed t := by
        intro t hne
        unfold td
        have : (∃ (j : Nat) (p : Oper), ops[j]? = some p ∧ p.dst = some t ∧ (listed.setIfInBounds i true).getD j false = true) ↔ (∃ (j : Nat) (p : Oper), ops[j]? = some p ∧ p.dst = some t ∧ listed.getD j false = true) := by
          constructor
          · rintro ⟨j, p, hp, hpd, hl⟩
            rw [hget'] at hl
            split at hl
            · rename_i hij; subst hij; rw [ho] at hp; cases hp; exact absurd hpd hne
            · exact ⟨j, p, hp, hpd, hl⟩
          · rintro ⟨j, p, hp, hpd, hl⟩
            refine ⟨j, p, hp, hpd, ?_⟩
            rw [hget']
            split
            · rfl
            · exact hl
        by_cases hx : ∃ (j : Nat) (p : Oper), ops[j]? = some p ∧ p.dst = some t ∧ listed.getD j false = true
        · rw [if_pos (this.2 hx), if_pos hx]
        · rw [if_neg (fun h => hx (this.1 h)), if_neg hx]
      cases hdst : o.dst with
      | none =>
        simp only [put]
        unfold tdl
        apply List.map_congr_left
        intro t _
        exact (hother t (by rw [hdst]; simp)).symm
      | some d =>
        simp only [put, putT_eq]
        unfold tdl
        apply List.ext_getElem?
        intro t
        rw [List.getElem?_set, List.getElem?_map, List.getElem?_map, List.length_map, List.length_range]
        by_cases hdt : d = t
        · subst hdt
          rw [if_pos rfl]
          split
          · rename_i hlt
            rw [List.getElem?_range hlt, Option.map_some]
            congr 1
            unfold td
            rw [if_pos ⟨i, o, ho, hdst, by rw [hget']; simp⟩]
            unfold dstIs at hv
            rw [hdst] at hv
            exact hv.symm
          · rename_i hlt
            rw [List.getElem?_eq_none (by simpa using hlt)]
            rfl
        · rw [if_neg hdt]
          rcases Nat.lt_or_ge t T.length with h | h
          · rw [List.getElem?_range h, Option.map_some, Option.map_some, hother t (by rw [hdst]; simpa using hdt)]
          · rw [List.getElem?_eq_none (by simpa using h)]
            rfl
    have hcount0 : i ∉ E → countE E (listed.setIfInBounds i true) = countE E listed := by
      intro niE
      unfold countE
      congr 1
      apply List.filter_congr
      intro e hee
      rw [hget', if_neg (fun h : i = e => niE (by rw [h]; exact hee))]
    have hchk' := hchk i o ho
    unfold chkV at hchk'
    unfold Go.wpOpIn
    simp only [ho]
    cases hw : wantedA ops (vw ops T Tf o) o with
    | none => rw [hw] at hchk'; exact hchk'.elim
    | some b =>
      rw [hw] at hchk'
      have hwant := wanted_of (w := w) hr (hwantEq.trans hw)
      have hcle : countE E listed ≤ E.length := List.length_filter_le _ _
      cases b with
      | false =>
        simp only [guardK] at hchk'
        obtain ⟨hv, hnone⟩ := hchk'
        have niE : i ∉ E := by
          intro hmem
          rw [List.findIdx?_eq_none_iff] at hnone
          have := hnone i hmem
          simp at this
        rw [if_neg (by rw [hwant]; simp)]
        refine ⟨fun _ _ => trivial, ?_⟩
        refine ih _ _ w ρ hsz' hc' hf' ?_ (by rw [hcount0 niE]; exact hh) (by rw [Act.put_defers']; exact hdf) (by rw [hcount0 niE]; exact he)
        rw [hcount0 niE, ← htd' _ hv]
        exact repL_put hr o.dst (rep_undef _ _ _)
      | true =>
        simp only [guardK] at hchk'
        obtain ⟨v0, hv0, hchk'⟩ := hchk'
        rw [if_pos hwant]
        cases hfi : E.findIdx? (· == i) with
        | none =>
          rw [hfi] at hchk'
          simp only [] at hchk'
          have niE : i ∉ E := by
            intro hmem
            rw [List.findIdx?_eq_none_iff] at hfi
            have := hfi i hmem
            simp at this
          have hlo : loE ops E i ≤ countE E listed := by
            unfold loE countE
            refine filter_len_le (fun e hee hp => ?_)
            rw [List.contains_iff_mem] at hp
            exact hancs e hp
          have hhi : countE E listed ≤ hiE ops E i := by
            unfold hiE countE
            refine filter_len_le (fun e hee hp => ?_)
            cases hcon : ((ancs ops).getD e []).contains i with
            | false => rfl
            | true =>
              exfalso
              rw [List.contains_iff_mem] at hcon
              have hes := hd.inb e hee
              have hoe : ops[e]? = some ops[e] := by simp [hes]
              have := listed_anc hd hc hsz e _ hoe (fun k hk => hc e _ hoe (by rw [lg hsz hes]; exact hp) k hk) i hcon
              rw [hinl'] at this
              cases this
          have hk := oneK_congr hops (hchk' _ hlo hhi)
          refine oneK_sound hk hr hh ?_ (fun v w' x H' ρ' hx => hx.elim)
          rintro v w' x H' ρ' ⟨rfl, rfl⟩ h2 h3 h4
          refine ih _ _ w' ρ' hsz' hc' hf' ?_ (by rw [hcount0 niE]; exact h3) (by rw [Act.put_defers']; exact hdf) (by rw [hcount0 niE]; exact he.trans (h4.mono (hm _ hcle)))
          rw [hcount0 niE, ← htd' _ hv0]
          exact repL_put (hr.mono h4) o.dst h2
        | some k =>
          rw [hfi] at hchk'
          simp only [] at hchk'
          obtain ⟨hkl, hki, hkmin⟩ := List.findIdx?_eq_some_iff_getElem.1 hfi
          have hEk : E.getD k 0 = i := by
            rw [List.getD_eq_getElem?_getD, List.getElem?_eq_getElem hkl]
            simpa using hki
          -- just the first k of E have been carried out
          have hEl : ∀ x, x < E.length → (listed.getD (E.getD x 0) false = true ↔ x < k) := by
            intro x hx
            constructor
            · intro hl
              rcases Nat.lt_trichotomy x k with h1 | h1 | h1
              · exact h1
              · subst h1
                rw [hEk, hinl'] at hl
                cases hl
              · exfalso
                have hcon := hd.chain k x h1 hx
                have hes := hd.inb (E.getD x 0) (by rw [List.getD_eq_getElem?_getD, List.getElem?_eq_getElem hx]; exact List.getElem_mem hx)
                have hoe : ops[E.getD x 0]? = some (ops[E.getD x 0]'hes) := Array.getElem?_eq_getElem hes
                have := listed_anc hd hc hsz _ _ hoe (fun j hj => hc _ _ hoe (by rw [lg hsz hes]; exact hl) j hj) _ hcon
                rw [hEk, hinl'] at this
                cases this
            · intro hxk
              have hcon := hd.chain x k hxk hkl
              rw [hEk] at hcon
              exact hancs _ hcon
          have hcnt : ∀ (l : Array Bool) (c : Nat), c ≤ E.length → (∀ x, x < E.length → (l.getD (E.getD x 0) false = true ↔ x < c)) → countE E l = c := by
            intro l c hc hx
            unfold countE
            have hE : E = E.take c ++ E.drop c := (List.take_append_drop c E).symm
            have e1 : (E.take c).filter (fun e => l.getD e false) = E.take c := by
              refine List.filter_eq_self.2 (fun e he => ?_)
              obtain ⟨y, hy⟩ := List.getElem?_of_mem he
              have hyc := lt_of_get hy
              rw [List.length_take] at hyc
              rw [List.getElem?_take, if_pos (by omega)] at hy
              have := (hx y (by omega)).2 (by omega)
              rwa [List.getD_eq_getElem?_getD, hy] at this
            have e2 : (E.drop c).filter (fun e => l.getD e false) = [] := by
              refine List.filter_eq_nil_iff.2 (fun e he => ?_)
              obtain ⟨y, hy⟩ := List.getElem?_of_mem he
              have hyc := lt_of_get hy
              rw [List.length_drop] at hyc
              rw [List.getElem?_drop] at hy
              intro hl
              have := (hx (c + y) (by omega)).1 (by rw [List.getD_eq_getElem?_getD, hy]; exact hl)
              omega
            conv => lhs; rw [hE]
            rw [List.filter_append, e1, e2, List.append_nil, List.length_take]
            omega
          have hck : countE E listed = k := hcnt listed k (by omega) hEl
          have hck' : countE E (listed.setIfInBounds i true) = k + 1 := by
            refine hcnt _ (k + 1) (by omega) (fun x hx => ?_)
            rw [hget']
            by_cases hxi : i = E.getD x 0
            · rw [if_pos hxi]
              have : x = k := hnd x k hx hkl (by rw [hEk]; exact hxi.symm)
              simp [this]
            · rw [if_neg hxi, hEl x hx]
              have : x ≠ k := fun h => hxi (by rw [h, hEk])
              omega
          rw [hck] at hr hh he hcle
          have hk2 := oneK_congr hops hchk'
          refine oneK_sound hk2 hr hh ?_ (fun v w' x H' ρ' hx => hx.elim)
          rintro v w' x H' ρ' ⟨rfl, rfl⟩ h2 h3 h4
          refine ih _ _ w' ρ' hsz' hc' hf' ?_ (by rw [hck']; exact h3) (by rw [Act.put_defers']; exact hdf) (by rw [hck']; exact he.trans (h4.mono (hm _ hcle)))
          rw [hck', ← htd' _ hv0]
          exact repL_put (hr.mono h4) o.dst h2

end

end Go.Proofs.Ytamoclnnakdiaaa.Abs
