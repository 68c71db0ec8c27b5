/-
  Loops at a state; a nil slice as an empty array; objects under other names; calls that hand out new objects.
  Conditions: none.
-/
import Derived.Test.YtamoclnnakdiaaaA16
namespace Go.Proofs.Ytamoclnnakdiaaa.Abs
open Go Go.RowKit
set_option linter.unusedVariables false

/-- Slots that are put anew. -/
def setT : List AV → List (Nat × AV) → List AV
  | T, [] => T
  | T, (k, v) :: l => setT (putT T k v) l
@[go_sem] theorem setT_nil (T : List AV) : setT T [] = T := _root_.id rfl
@[go_sem] theorem setT_cons (T : List AV) (k : Nat) (v : AV) (l : List (Nat × AV)) : setT T ((k, v) :: l) = setT (putT T k v) l := _root_.id rfl

/-- A loop at a state: I is told of the slots at its head. -/
theorem awp_loop_at {rd : Bool} {P : Program} {m : Nat} {c : Code} {Q : AExit → AState → Prop} {T : List AV} {H : List AObj} (I : List AV → Nat → AState → Prop)
    (start : ∃ n S0, Weak m ⟨T, H⟩ S0 ∧ I T n S0)
    (round : ∀ n S, I T n S → AWP P rd m c (AExit.andThen (fun S' => ∃ n', n' < n ∧ ∃ S0, Weak m S' S0 ∧ I T n' S0) Q) S) : AWP P rd m (.loop c) Q ⟨T, H⟩ :=
  awp_loop (I T) start round

/-- What stands between two parts of the code. -/
theorem awp_seq_at {rd : Bool} {P : Program} {m : Nat} {x y : Code} {Q : AExit → AState → Prop} {T : List AV} {H : List AObj} (u : List (Nat × AV)) (H' : List AObj)
    (h1 : ∀ K : AState → Prop, (∀ S', Weak m S' ⟨setT T u, H'⟩ → K S') → AWP P rd m x (AExit.andThen K Q) ⟨T, H⟩) (h2 : AWP P rd m y Q ⟨setT T u, H'⟩) : AWP P rd m (.seq x y) Q ⟨T, H⟩ :=
  awp_seq (h1 _ fun S' hw => AWP.weak _ hw h2)

theorem drop_cons {α : Type} {l : List α} {i : Nat} {a : α} (h : l[i]? = some a) : l.drop i = a :: l.drop (i + 1) := by
  have hi := lt_of_get h
  rw [List.getElem?_eq_getElem hi] at h
  cases h
  exact List.drop_eq_getElem_cons hi

theorem hB_app {H L : List AObj} (hB : HB H) (h : ∀ o, o ∈ L → ObjBelow (H.length + L.length) o) : HB (H ++ L) := by
  intro o ho
  rw [List.length_append]
  rcases List.mem_append.1 ho with ho | ho
  · have := hB o ho
    cases o with
    | var cs => exact fun x hx => (this x hx).mono (by omega)
    | arr g e sz els => exact fun x hx => (this x hx).mono (by omega)
    | loop st pend T1 ps asg body => exact fun x hx => (this x hx).mono (by omega)
    | dead => trivial
  · exact h o ho
@[simp] theorem objBelow_var (n : Nat) (cs : List AV) : ObjBelow n (.var cs) ↔ ∀ x, x ∈ cs → Below' n x := Iff.rfl
@[simp] theorem objBelow_arr (n g : Nat) (e : TypeId) (sz : Nat) (els : List AV) : ObjBelow n (.arr g e sz els) ↔ ∀ x, x ∈ els → Below' n x := Iff.rfl
@[simp] theorem objBelow_loop (n : Nat) (st : LoopState) (pend : Option Code) (T : List AV) (ps : Array Tmp) (asg body : Code) : ObjBelow n (.loop st pend T ps asg body) ↔ ∀ x, x ∈ T → Below' n x := Iff.rfl
@[simp] theorem objBelow_dead (n : Nat) : ObjBelow n .dead ↔ True := Iff.rfl

/-- T' is T with nil slices as slices of the empty array id, or forgotten. -/
def NilT (id : Nat) : List AV → List AV → Prop
  | [], [] => True
  | x :: l, y :: l' => (y = x ∨ y = .junk ∨ (x = .nils ∧ y = .sl id 0 0 0)) ∧ NilT id l l'
  | _, _ => False

theorem NilT.spec {id : Nat} : ∀ {l l' : List AV}, NilT id l l' → l'.length = l.length ∧ ∀ (k : Nat) (y : AV), l'[k]? = some y → ∃ x, l[k]? = some x ∧ (y = x ∨ y = .junk ∨ (x = .nils ∧ y = .sl id 0 0 0))
  | [], [], _ => ⟨rfl, fun k y hk => by simp at hk⟩
  | x :: l, y :: l', ⟨h1, h2⟩ => by
    obtain ⟨g1, g2⟩ := NilT.spec h2
    refine ⟨by simp [g1], fun k z hk => ?_⟩
    cases k with
    | zero => simp only [List.getElem?_cons_zero, Option.some.injEq] at hk; subst hk; exact ⟨x, rfl, h1⟩
    | succ k => simp only [List.getElem?_cons_succ] at hk ⊢; exact g2 k z hk
  | [], _ :: _, h => h.elim
  | _ :: _, [], h => h.elim

/-- Nil slices may be read as slices of a new empty array. -/
theorem weak_nil {m : Nat} {T T' : List AV} {H H' : List AObj} (e : TypeId) (sz : Nat) (id : Nat) (hid : id = H.length) (hH : H' = H ++ [.arr 0 e sz []]) (hm : m ≤ H.length) (h : NilT id T T') : Weak m ⟨T, H⟩ ⟨T', H'⟩ := by
  intro ρ w a hr
  subst hid hH
  obtain ⟨he, hh⟩ := ext_emp hr.heap 0 e sz
  obtain ⟨h1, h2⟩ := h.spec
  refine ⟨ρ, ⟨⟨hr.tmps.1.trans h1.symm, fun k y hk => ?_⟩, hh⟩, he.mono hm⟩
  obtain ⟨x, hx, hc⟩ := h2 k y hk
  have hrx := (hr.tmps.2 k x hx).mono he
  rcases hc with rfl | rfl | ⟨rfl, rfl⟩
  · exact hrx
  · exact .junk _
  · generalize a.tmps.getD k undef = v at hrx ⊢
    cases hrx
    exact .sl_emp _ _ e sz _ (by rw [List.getElem?_append_right (Nat.le_refl _)]; simp)

/-! ## objects under other names -/
/-- y is x, with objects of H named as they are in H'; n: ids below keep their names. t: what becomes of which. -/
inductive Ren (n : Nat) (H H' : List AObj) (t : List Nat) : AV → AV → Prop where
  | junk (x : AV) : Ren n H H' t x .junk
  | same (x : AV) : Below' n x → Ren n H H' t x x
  | ptr (j k off : Nat) (cs : List AV) : t[k]? = some j → H'[n + k]? = some (.var cs) → Ren n H H' t (.ptr (n + j) off) (.ptr (n + k) off)
  | eptr (j k g g' i off : Nat) (e e' : TypeId) (sz sz' : Nat) (els els' : List AV) : t[k]? = some j → H[n + j]? = some (.arr g e sz els) → H'[n + k]? = some (.arr g' e' sz' els') → Ren n H H' t (.eptr (n + j) g i off) (.eptr (n + k) g' i off)
  | sl (j k g g' off len : Nat) (e e' : TypeId) (sz sz' : Nat) (els els' : List AV) : t[k]? = some j → H[n + j]? = some (.arr g e sz els) → H'[n + k]? = some (.arr g' e' sz' els') → Ren n H H' t (.sl (n + j) g off len) (.sl (n + k) g' off len)
  | agg (cs cs' : List AV) : cs'.length = cs.length → (∀ (k : Nat) (x y : AV), cs[k]? = some x → cs'[k]? = some y → Ren n H H' t x y) → Ren n H H' t (.agg cs) (.agg cs')
  | tuple (cs cs' : List AV) : cs'.length = cs.length → (∀ (k : Nat) (x y : AV), cs[k]? = some x → cs'[k]? = some y → Ren n H H' t x y) → Ren n H H' t (.tuple cs) (.tuple cs')
  | iface (ty : TypeId) (x y : AV) : Ren n H H' t x y → Ren n H H' t (.iface ty x) (.iface ty y)

/-- An object with what it holds named anew. -/
inductive RenO (n : Nat) (H H' : List AObj) (t : List Nat) : AObj → AObj → Prop where
  | var (cs cs' : List AV) : cs'.length = cs.length → (∀ (k : Nat) (x y : AV), cs[k]? = some x → cs'[k]? = some y → Ren n H H' t x y) → RenO n H H' t (.var cs) (.var cs')
  | arr (g g' : Nat) (e : TypeId) (sz : Nat) (els els' : List AV) : els'.length = els.length → (∀ x, x ∈ els' → x.cells.length = sz) →
      (∀ (k : Nat) (x y : AV), (flat els)[k]? = some x → (flat els')[k]? = some y → Ren n H H' t x y) → RenO n H H' t (.arr g e sz els) (.arr g' e sz els')
  | same (g g' : Nat) (e : TypeId) (sz : Nat) (els : List AV) : (∀ x, x ∈ els → Below' n x) → RenO n H H' t (.arr g e sz els) (.arr g' e sz els)
  | dead (o : AObj) : RenO n H H' t o .dead

def RenOs (n : Nat) (H H' : List AObj) (t : List Nat) (L : List AObj) : List Nat → List AObj → Prop
  | [], [] => True
  | j :: t', o' :: L' => (∃ o, L[j]? = some o ∧ RenO n H H' t o o') ∧ RenOs n H H' t L t' L'
  | _, _ => False

theorem RenOs.spec {n : Nat} {H H' : List AObj} {t : List Nat} {L : List AObj} : ∀ {t' : List Nat} {L' : List AObj}, RenOs n H H' t L t' L' → ∀ (k : Nat) (o' : AObj), L'[k]? = some o' → ∃ j o, t'[k]? = some j ∧ L[j]? = some o ∧ RenO n H H' t o o'
  | [], [], _ => fun k o' hk => by simp at hk
  | j :: t', p :: L', ⟨⟨o, h1, h2⟩, h3⟩ => by
    intro k o' hk
    cases k with
    | zero => simp only [List.getElem?_cons_zero, Option.some.injEq] at hk; subst hk; exact ⟨j, o, rfl, h1, h2⟩
    | succ k => simp only [List.getElem?_cons_succ] at hk ⊢; exact RenOs.spec h3 k o' hk
  | [], _ :: _, h => h.elim
  | _ :: _, [], h => h.elim

/-- Slots named anew. -/
def RenT (n : Nat) (H H' : List AObj) (t : List Nat) : List AV → List AV → Prop
  | [], [] => True
  | x :: l, y :: l' => Ren n H H' t x y ∧ RenT n H H' t l l'
  | _, _ => False

theorem RenT.spec {n : Nat} {H H' : List AObj} {t : List Nat} : ∀ {l l' : List AV}, RenT n H H' t l l' → l'.length = l.length ∧ ∀ (k : Nat) (y : AV), l'[k]? = some y → ∃ x, l[k]? = some x ∧ Ren n H H' t x y
  | [], [], _ => ⟨rfl, fun k y hk => by simp at hk⟩
  | x :: l, y :: l', ⟨h1, h2⟩ => by
    obtain ⟨g1, g2⟩ := RenT.spec h2
    refine ⟨by simp [g1], fun k z hk => ?_⟩
    cases k with
    | zero => simp only [List.getElem?_cons_zero, Option.some.injEq] at hk; subst hk; exact ⟨x, rfl, h1⟩
    | succ k => simp only [List.getElem?_cons_succ] at hk ⊢; exact g2 k z hk
  | [], _ :: _, h => h.elim
  | _ :: _, [], h => h.elim

section
variable {H L L' : List AObj} {t : List Nat} {ρ : Nat → Nat}

/-- Where the objects lie under their new names. -/
def rn (n : Nat) (t : List Nat) (ρ : Nat → Nat) : Nat → Nat := fun i => if i < n then ρ i else ρ (n + t.getD (i - n) 0)

theorem rn_lt {n i : Nat} (h : i < n) : rn n t ρ i = ρ i := by unfold rn; rw [if_pos h]
theorem rn_ge {n k j : Nat} (h : t[k]? = some j) : rn n t ρ (n + k) = ρ (n + j) := by
  unfold rn
  rw [if_neg (by omega)]
  congr 1
  rw [Nat.add_sub_cancel_left, List.getD_eq_getElem?_getD, h]
  rfl

theorem renO_live {n : Nat} {G G' : List AObj} {o o' : AObj} (h : RenO n G G' t o o') (hl : o'.live) : o.live := by
  cases h with
  | var cs cs' h1 h2 => trivial
  | arr g g' e sz els els' h1 h2 h3 => exact fun h0 => hl (by subst h0; exact List.eq_nil_of_length_eq_zero (by simpa using h1))
  | same g g' e sz els h1 => exact hl
  | dead o => exact hl.elim

theorem mu_ren (ho : RenOs H.length (H ++ L) (H ++ L') t L t L') {b : Nat} (h : Mu (rn H.length t ρ) (H ++ L') b) : Mu ρ (H ++ L) b := by
  obtain ⟨id, o, h1, h2, h3⟩ := h
  rcases Nat.lt_or_ge id H.length with hl | hl
  · rw [List.getElem?_append_left hl] at h1
    rw [rn_lt hl] at h3
    exact ⟨id, o, by rw [List.getElem?_append_left hl]; exact h1, h2, h3⟩
  · obtain ⟨k, rfl⟩ : ∃ k, id = H.length + k := ⟨id - H.length, by omega⟩
    rw [List.getElem?_append_right (by omega), Nat.add_sub_cancel_left] at h1
    obtain ⟨j, p, g1, g2, g3⟩ := ho.spec k o h1
    rw [rn_ge g1] at h3
    exact ⟨H.length + j, p, by rw [List.getElem?_append_right (by omega), Nat.add_sub_cancel_left]; exact g2, renO_live g3 h2, h3⟩

theorem Rep.ren_same (ho : RenOs H.length (H ++ L) (H ++ L') t L t L') {w : World} {x : AV} {v : Value} (h : Rep ρ (H ++ L) w x v) (hb : Below' H.length x) : Rep (rn H.length t ρ) (H ++ L') w x v := by
  have back : ∀ (id : Nat) (o : AObj), id < H.length → (H ++ L)[id]? = some o → (H ++ L')[id]? = some o := fun id o hid ho => by rwa [List.getElem?_append_left hid] at ho ⊢
  have stale : ∀ (id g : Nat), id < H.length → Stale (H ++ L) id g → Stale (H ++ L') id g := fun id g hid hs => by
    rcases hs with ⟨g', e, sz, els, h1, h2⟩ | h1
    · exact .inl ⟨g', e, sz, els, back id _ hid h1, h2⟩
    · exact .inr (back id _ hid h1)
  induction h with
  | bool b => exact .bool b
  | int k n => exact .int k n
  | str s b h1 => exact .str s b h1
  | nilp => exact .nilp
  | ptr id off cs h1 =>
    have hid : id < H.length := by simpa using hb
    rw [← rn_lt (t := t) (ρ := ρ) hid]
    exact .ptr id off cs (back id _ hid h1)
  | eptr id g i off e sz els h1 h2 =>
    have hid : id < H.length := by simpa using hb
    rw [← rn_lt (t := t) (ρ := ρ) hid]
    exact .eptr id g i off e sz els (back id _ hid h1) h2
  | eptr_stale id g i off a hs => exact .eptr_stale id g i off a (stale id g (by simpa using hb) hs)
  | fptr cells a vals h1 h2 h3 h4 h5 h6 ih =>
    have hb' := (below_fptr _ _).1 hb
    exact .fptr cells a vals h1 h2 (fun hm => h3 (mu_ren ho hm)) h4 h5 (fun k x hk => ih k x hk (hb' x (List.mem_of_getElem? hk)))
  | nils => exact .nils
  | nilc a => exact .nilc a
  | fz_emp a c => exact .fz_emp a c
  | fz xs sz a c vals h1 h2 h3 h4 h5 h6 h7 h8 ih =>
    have hb' := (below_fz _ _).1 hb
    refine .fz xs sz a c vals h1 h2 (fun hm => h3 (mu_ren ho hm)) h4 h5 h6 h7 (fun k x hk => ih k x hk ?_)
    obtain ⟨y, hy, hxy⟩ := List.mem_flatMap.1 (List.mem_of_getElem? hk)
    have hby := hb' y hy
    cases y <;> simp only [AV.cells, List.mem_singleton] at hxy <;> first | (subst hxy; exact hby) | exact (below_agg _ _).1 hby x hxy
  | sl id g off len e sz els cap cur h1 h2 h3 h4 h5 h6 h7 =>
    have hid : id < H.length := by simpa using hb
    have hr := rn_lt (t := t) (ρ := ρ) hid
    rw [← hr]
    exact .sl id g off len e sz els cap cur (back id _ hid h1) h2 h3 h4 h5 (by rw [hr]; exact h6) h7
  | sl_emp id g e sz a h1 => exact .sl_emp id g e sz a (back id _ (by simpa using hb) h1)
  | sl_stale id g off len a n c hs => exact .sl_stale id g off len a n c (stale id g (by simpa using hb) hs)
  | fn f first cap vf vc h1 h2 h3 h4 i1 i2 =>
    have hb' := (below_fn _ _ _ _).1 hb
    exact .fn f first cap vf vc h1 h2 (fun k x hk => i1 k x hk (hb'.1 x (List.mem_of_getElem? hk))) (fun k x hk => i2 k x hk (hb'.2 x (List.mem_of_getElem? hk)))
  | nilf => exact .nilf
  | iface t x v h1 ih => exact .iface t x v (ih ((below_iface _ _ _).1 hb))
  | nili => exact .nili
  | agg cells vs h1 h2 h3 ih =>
    have hb' := (below_agg _ _).1 hb
    exact .agg cells vs h1 h2 (fun k x hk => ih k x hk (hb' x (List.mem_of_getElem? hk)))
  | tuple xs vs h1 h2 ih =>
    have hb' := (below_tuple _ _).1 hb
    exact .tuple xs vs h1 (fun k x hk => ih k x hk (hb' x (List.mem_of_getElem? hk)))
  | yfn id st pend T1 ps asg body h1 =>
    have hid : id < H.length := by simpa using hb
    rw [← rn_lt (t := t) (ρ := ρ) hid]
    exact .yfn id st pend T1 ps asg body (back id _ hid h1)
  | yfn_stale id v h1 => exact .yfn_stale id v (back id _ (by simpa using hb) h1)
  | junk v => exact .junk v

theorem Rep.ren (ho : RenOs H.length (H ++ L) (H ++ L') t L t L') {w : World} {x y : AV} (hr : Ren H.length (H ++ L) (H ++ L') t x y) : ∀ {v : Value}, Rep ρ (H ++ L) w x v → Rep (rn H.length t ρ) (H ++ L') w y v := by
  have up : ∀ (G : List AObj) (k : Nat), (H ++ G)[H.length + k]? = G[k]? := fun G k => by rw [List.getElem?_append_right (by omega), Nat.add_sub_cancel_left]
  have arr : ∀ {k : Nat} {g' : Nat} {e' : TypeId} {sz' : Nat} {els' : List AV} {j g : Nat} {e : TypeId} {sz : Nat} {els : List AV}, t[k]? = some j → (H ++ L)[H.length + j]? = some (.arr g e sz els) → (H ++ L')[H.length + k]? = some (.arr g' e' sz' els') →
      e' = e ∧ sz' = sz ∧ els'.length = els.length := by
    intro k g' e' sz' els' j g e sz els h1 h2 h3
    rw [up] at h2 h3
    obtain ⟨j2, o, q1, q2, q3⟩ := ho.spec k _ h3
    rw [h1] at q1
    cases q1
    rw [h2] at q2
    cases q2
    cases q3 with
    | arr _ _ _ _ _ _ p1 p2 p3 => exact ⟨rfl, rfl, p1⟩
    | same _ _ _ _ _ p1 => exact ⟨rfl, rfl, rfl⟩
  have ne : ∀ {l l' : List AV}, l'.length = l.length → l ≠ [] → l' ≠ [] := fun h1 h2 h3 => h2 (by subst h3; exact List.eq_nil_of_length_eq_zero (by simpa using h1.symm))
  induction hr with
  | junk x => intro v _; exact .junk v
  | same x hb => intro v h; exact h.ren_same ho hb
  | ptr j k off cs h1 h2 =>
    intro v h
    cases h with
    | ptr _ _ cs' h3 => rw [← rn_ge (ρ := ρ) h1]; exact .ptr _ off cs h2
  | eptr j k g g' i off e e' sz sz' els els' h1 h2 h3 =>
    intro v h
    obtain ⟨rfl, rfl, hl⟩ := arr h1 h2 h3
    cases h with
    | eptr _ _ _ _ _ _ _ q1 q2 =>
      rw [h2] at q1
      cases q1
      rw [← rn_ge (ρ := ρ) h1]
      exact .eptr _ g' i off _ _ els' h3 (ne hl q2)
    | eptr_stale _ _ _ _ a q =>
      rcases q with ⟨g2, e2, sz2, els2, q1, q2⟩ | q1
      · rw [h2] at q1; cases q1; omega
      · rw [h2] at q1; cases q1
  | sl j k g g' off len e e' sz sz' els els' h1 h2 h3 =>
    intro v h
    obtain ⟨rfl, rfl, hl⟩ := arr h1 h2 h3
    cases h with
    | sl _ _ _ _ _ _ _ cap cur q1 q2 q3 q4 q5 q6 q7 =>
      rw [h2] at q1
      cases q1
      have hrn := rn_ge (ρ := ρ) (n := H.length) h1
      rw [← hrn]
      exact .sl _ g' off len _ _ els' cap cur h3 (ne hl q2) (by omega) q4 q5 (by rw [hrn]; exact q6) q7
    | sl_emp _ _ _ _ a q1 =>
      rw [h2] at q1
      cases q1
      obtain rfl : els' = [] := List.eq_nil_of_length_eq_zero (by simpa using hl)
      exact .sl_emp _ g' _ _ a h3
    | sl_stale _ _ _ _ a n c q =>
      rcases q with ⟨g2, e2, sz2, els2, q1, q2⟩ | q1
      · rw [h2] at q1; cases q1; omega
      · rw [h2] at q1; cases q1
  | agg cs cs' h1 h2 ih =>
    intro v h
    cases h with
    | agg _ vs q1 q2 q3 =>
      refine .agg cs' vs (q1.trans h1.symm) ?_ ?_
      · intro k y hk
        have hlt := lt_of_get hk
        exact q2 k _ (List.getElem?_eq_getElem (by omega))
      · intro k y hk
        have hlt := lt_of_get hk
        have hx : cs[k]? = some cs[k] := List.getElem?_eq_getElem (by omega)
        exact ih k _ y hx hk (q3 k _ hx)
  | tuple cs cs' h1 h2 ih =>
    intro v h
    cases h with
    | tuple _ vs q1 q3 =>
      refine .tuple cs' vs (q1.trans h1.symm) ?_
      intro k y hk
      have hlt := lt_of_get hk
      have hx : cs[k]? = some cs[k] := List.getElem?_eq_getElem (by omega)
      exact ih k _ y hx hk (q3 k _ hx)
  | iface ty x y h1 ih =>
    intro v h
    cases h with
    | iface _ _ v' q => exact .iface ty y v' (ih q)

/-- The objects L become L'; each slot is named anew. t: from where each of L' comes. -/
theorem weak_ren {m : Nat} {T T' : List AV} (t : List Nat) (hm : m ≤ H.length) (hB : HB H) (hn : t.Nodup) (ho : RenOs H.length (H ++ L) (H ++ L') t L t L') (hT : RenT H.length (H ++ L) (H ++ L') t T T') :
    Weak m ⟨T, H ++ L⟩ ⟨T', H ++ L'⟩ := by
  intro ρ w a hr
  have up : ∀ (G : List AObj) (k : Nat), (H ++ G)[H.length + k]? = G[k]? := fun G k => by rw [List.getElem?_append_right (by omega), Nat.add_sub_cancel_left]
  have part : ∀ (id : Nat) (o : AObj), (H ++ L')[id]? = some o → (id < H.length ∧ H[id]? = some o) ∨ ∃ k, id = H.length + k ∧ L'[k]? = some o := by
    intro id o h
    rcases Nat.lt_or_ge id H.length with hl | hl
    · rw [List.getElem?_append_left hl] at h; exact .inl ⟨hl, h⟩
    · obtain ⟨k, rfl⟩ : ∃ k, id = H.length + k := ⟨id - H.length, by omega⟩
      rw [up] at h
      exact .inr ⟨k, rfl, h⟩
  have old : ∀ {id : Nat} {o : AObj}, H[id]? = some o → (H ++ L)[id]? = some o := fun ho => by rw [List.getElem?_append_left (lt_of_get ho)]; exact ho
  refine ⟨rn H.length t ρ, ⟨?_, ⟨?_, ?_, ?_, ?_⟩⟩, ?_⟩
  · obtain ⟨h1, h2⟩ := hT.spec
    refine ⟨hr.tmps.1.trans h1.symm, fun k y hk => ?_⟩
    obtain ⟨x, hx, hc⟩ := h2 k y hk
    exact Rep.ren ho hc (hr.tmps.2 k x hx)
  · intro i j o p hi hol hj hpl hij
    rcases part i o hi with ⟨i1, i2⟩ | ⟨k, rfl, i2⟩
    · rcases part j p hj with ⟨j1, j2⟩ | ⟨k2, rfl, j2⟩
      · rw [rn_lt i1, rn_lt j1] at hij
        exact hr.heap.inj i j o p (old i2) hol (old j2) hpl hij
      · obtain ⟨jj, q, q1, q2, q3⟩ := ho.spec k2 p j2
        rw [rn_lt i1, rn_ge q1] at hij
        have := hr.heap.inj i (H.length + jj) o q (old i2) hol (by rw [up]; exact q2) (renO_live q3 hpl) hij
        omega
    · obtain ⟨ii, r, r1, r2, r3⟩ := ho.spec k o i2
      rcases part j p hj with ⟨j1, j2⟩ | ⟨k2, rfl, j2⟩
      · rw [rn_lt j1, rn_ge r1] at hij
        have := hr.heap.inj (H.length + ii) j r p (by rw [up]; exact r2) (renO_live r3 hol) (old j2) hpl hij
        omega
      · obtain ⟨jj, q, q1, q2, q3⟩ := ho.spec k2 p j2
        rw [rn_ge r1, rn_ge q1] at hij
        have h1 := hr.heap.inj (H.length + ii) (H.length + jj) r q (by rw [up]; exact r2) (renO_live r3 hol) (by rw [up]; exact q2) (renO_live q3 hpl) hij
        have h2 : ii = jj := by omega
        subst h2
        have h3 := lt_of_get r1
        have h4 := lt_of_get q1
        rw [List.getElem?_eq_getElem h3] at r1
        rw [List.getElem?_eq_getElem h4] at q1
        have h5 : t[k] = t[k2] := by simpa using r1.trans q1.symm
        rw [(List.getElem_inj hn).1 h5]
  · intro id cs hid
    rcases part id _ hid with ⟨i1, i2⟩ | ⟨k, rfl, i2⟩
    · obtain ⟨cur, e, h1, h2, h3⟩ := hr.heap.var id cs (old i2)
      rw [rn_lt i1]
      have hb := hB _ (List.mem_of_getElem? i2)
      exact ⟨cur, e, h1, h2, fun k x hk => ⟨(h3 k x hk).1, (h3 k x hk).2.ren_same ho (hb x (List.mem_of_getElem? hk))⟩⟩
    · obtain ⟨j, o, q1, q2, q3⟩ := ho.spec k _ i2
      rw [rn_ge q1]
      cases q3 with
      | var cs0 _ p1 p2 =>
        obtain ⟨cur, e, h1, h2, h3⟩ := hr.heap.var (H.length + j) cs0 (by rw [up]; exact q2)
        refine ⟨cur, e, h1, h2.trans p1.symm, fun k2 y hk => ?_⟩
        have hlt := lt_of_get hk
        have hx : cs0[k2]? = some cs0[k2] := List.getElem?_eq_getElem (by omega)
        exact ⟨(h3 k2 _ hx).1, Rep.ren ho (p2 k2 _ y hx hk) (h3 k2 _ hx).2⟩
  · intro id g e sz els hid
    rcases part id _ hid with ⟨i1, i2⟩ | ⟨k, rfl, i2⟩
    · obtain ⟨h1, h2⟩ := hr.heap.arr id g e sz els (old i2)
      refine ⟨h1, fun hne => ?_⟩
      obtain ⟨cur, cap, h3, h4, h5, h6, h7⟩ := h2 hne
      rw [rn_lt i1]
      have hb := hB _ (List.mem_of_getElem? i2)
      refine ⟨cur, cap, h3, h4, h5, h6, fun k x hk => ⟨(h7 k x hk).1, (h7 k x hk).2.ren_same ho ?_⟩⟩
      obtain ⟨y, hy, hxy⟩ := List.mem_flatMap.1 (List.mem_of_getElem? hk)
      have hby := hb y hy
      cases y <;> simp only [AV.cells, List.mem_singleton] at hxy <;> first | (subst hxy; exact hby) | exact (below_agg _ _).1 hby x hxy
    · obtain ⟨j, o, q1, q2, q3⟩ := ho.spec k _ i2
      rw [rn_ge q1]
      cases q3 with
      | arr g0 _ _ _ els0 _ p1 p2 p3 =>
        obtain ⟨h1, h2⟩ := hr.heap.arr (H.length + j) g0 e sz els0 (by rw [up]; exact q2)
        refine ⟨p2, fun hne => ?_⟩
        obtain ⟨cur, cap, h3, h4, h5, h6, h7⟩ := h2 (fun h0 => hne (by subst h0; exact List.eq_nil_of_length_eq_zero (by simpa using p1)))
        refine ⟨cur, cap, h3, by omega, h5, h6, fun k2 y hk => ?_⟩
        have hlt := lt_of_get hk
        rw [flat_length p2, p1, ← flat_length h1] at hlt
        have hx : (flat els0)[k2]? = some (flat els0)[k2] := List.getElem?_eq_getElem hlt
        exact ⟨(h7 k2 _ hx).1, Rep.ren ho (p3 k2 _ y hx hk) (h7 k2 _ hx).2⟩
      | same g0 _ _ _ _ p1 =>
        obtain ⟨h1, h2⟩ := hr.heap.arr (H.length + j) g0 e sz els (by rw [up]; exact q2)
        refine ⟨h1, fun hne => ?_⟩
        obtain ⟨cur, cap, h3, h4, h5, h6, h7⟩ := h2 hne
        refine ⟨cur, cap, h3, h4, h5, h6, fun k x hk => ⟨(h7 k x hk).1, (h7 k x hk).2.ren_same ho ?_⟩⟩
        obtain ⟨y, hy, hxy⟩ := List.mem_flatMap.1 (List.mem_of_getElem? hk)
        have hby := p1 y hy
        cases y <;> simp only [AV.cells, List.mem_singleton] at hxy <;> first | (subst hxy; exact hby) | exact (below_agg _ _).1 hby x hxy
  · intro id st pend T1 ps asg body hid
    rcases part id _ hid with ⟨i1, i2⟩ | ⟨k, rfl, i2⟩
    · obtain ⟨fn, D, tmps, h1, h2, h3⟩ := hr.heap.loop id st pend T1 ps asg body (old i2)
      rw [rn_lt i1]
      have hb := hB _ (List.mem_of_getElem? i2)
      exact ⟨fn, D, tmps, h1, h2, fun k x hk => (h3 k x hk).ren_same ho (hb x (List.mem_of_getElem? hk))⟩
    · obtain ⟨j, o, q1, q2, q3⟩ := ho.spec k _ i2
      cases q3
  · refine ⟨rfl, rfl, rfl, Nat.le_refl _, fun _ _ _ => rfl, fun b hb => .inl (mu_ren ho hb), ?_⟩
    intro id o hid hx
    have hl : id < H.length := by omega
    rw [List.getElem?_append_left hl] at hx
    refine ⟨o, by rw [List.getElem?_append_left hl]; exact hx, ?_⟩
    have hn' := rn_lt (t := t) (ρ := ρ) hl
    cases o with
    | var cs => exact .var cs cs rfl hn'
    | arr g e sz els => exact .arr g e sz els els rfl hn' (fun _ => SameShape.refl w _)
    | loop st pend T1 ps asg body => exact .loop st st pend pend T1 ps asg body hn'
    | dead => exact .dead
end

theorem Ren.aggT {n : Nat} {H H' : List AObj} {t : List Nat} {cs cs' : List AV} (h : RenT n H H' t cs cs') : Ren n H H' t (.agg cs) (.agg cs') :=
  .agg cs cs' h.spec.1 (fun k x y hx hy => by obtain ⟨z, hz, hr⟩ := h.spec.2 k y hy; rw [hx] at hz; cases hz; exact hr)
theorem Ren.tupleT {n : Nat} {H H' : List AObj} {t : List Nat} {cs cs' : List AV} (h : RenT n H H' t cs cs') : Ren n H H' t (.tuple cs) (.tuple cs') :=
  .tuple cs cs' h.spec.1 (fun k x y hx hy => by obtain ⟨z, hz, hr⟩ := h.spec.2 k y hy; rw [hx] at hz; cases hz; exact hr)

/-! ## calls that hand out new objects -/
/-- The call gives v, and the objects L are new. -/
def NewF (P : Program) (f : FuncId) (args : List AV) (H : List AObj) (v : AV) (L : List AObj) : Prop := ACallF P f args H (fun x H' => x = .ret v ∧ H' = H ++ L)

/-- The end of a call that hands out new objects: L' is what is left of all its own, L. -/
theorem end_new {P : Program} {fn : Func} {T : List AV} {H L L' : List AObj} {u v : AV} (t : List Nat) (hB : HB H) (hr : resT P fn T (H ++ L) = some u) (hn : t.Nodup) (ho : RenOs H.length (H ++ L) (H ++ L') t L t L')
    (hv : Ren H.length (H ++ L) (H ++ L') t u v) : bodyEnd P fn H.length (fun x H' => x = .ret v ∧ H' = H ++ L') .ret ⟨T, H ++ L⟩ :=
  ⟨u, hr, ⟨[v], H ++ L'⟩, weak_ren t (Nat.le_refl _) hB hn ho ⟨hv, trivial⟩, v, rfl, rfl, rfl⟩

/-- The end of a call whose own objects but one array, the j-th, go; the array holds nothing of the call's own. -/
theorem end_arr {P : Program} {fn : Func} {T : List AV} {H L : List AObj} {u v : AV} (j g : Nat) (e : TypeId) (sz : Nat) (els : List AV) (hB : HB H) (hr : resT P fn T (H ++ L) = some u) (hj : L[j]? = some (.arr g e sz els)) (hels : ∀ x, x ∈ els → Below' H.length x)
    (hv : Ren H.length (H ++ L) (H ++ [.arr g e sz els]) [j] u v) : bodyEnd P fn H.length (fun x H' => x = .ret v ∧ H' = H ++ [.arr g e sz els]) .ret ⟨T, H ++ L⟩ :=
  end_new [j] hB hr (by simp) ⟨⟨_, hj, .same g g e sz els hels⟩, trivial⟩ hv
theorem ren_arr {H L : List AObj} {j g n : Nat} {e : TypeId} {sz : Nat} {els : List AV} (hj : L[j]? = some (.arr g e sz els)) : Ren H.length (H ++ L) (H ++ [.arr g e sz els]) [j] (.sl (H.length + j) g 0 n) (.sl H.length g 0 n) :=
  .sl j 0 g g 0 n e e sz sz els els rfl (by rw [List.getElem?_append_right (by omega), Nat.add_sub_cancel_left]; exact hj) (by rw [List.getElem?_append_right (by omega)]; simp)

section
variable {P : Program} {l : List Oper} {Q : AExit → AState → Prop}
theorem callW_new {g : FuncId} {args : List AV} {d : Option Tmp} {os : List Oper} {T : List AV} {H : List AObj} {v : AV} {L : List AObj} (h : NewF P g args H v L) (hk : walkL P l Q os (put T d v) (H ++ L)) : callW P l Q (.f g) args d os T H :=
  callW_mono h (fun x H' ⟨h1, h2⟩ => by cases h1; subst h2; exact hk) (fun x H' ⟨h1, h2⟩ => by cases h1)
end

theorem weak_cut {m : Nat} {T T' : List AV} {H1 H2 : List AObj} (L : List AObj) (h : H1 = H2 ++ L) (hm : m ≤ H2.length) (hle : LeT T T') (hT : ∀ x, x ∈ T' → Below' H2.length x) (hB : HB H2) : Weak m ⟨T, H1⟩ ⟨T', H2⟩ := by
  subst h
  exact weak_trunc hm hle hT hB

theorem forall_set {p : AV → Prop} {l : List AV} {i : Nat} {y : AV} (h1 : ∀ x, x ∈ l → p x) (h2 : p y) : ∀ x, x ∈ l.set i y → p x := by
  intro x hx
  rcases List.mem_or_eq_of_mem_set hx with h | rfl
  · exact h1 x h
  · exact h2

/-- A slice that was made may be frozen. -/
theorem weak_frz {m : Nat} {H : List AObj} {T T' : List AV} {g : Nat} {e : TypeId} {sz : Nat} {els : List AV} (hm : m ≤ H.length) (hB : HB H) (hT : FrzL H.length g els T T') (hb : ∀ x, x ∈ T' → Below' H.length x) : Weak m ⟨T, H ++ [.arr g e sz els]⟩ ⟨T', H⟩ := by
  have hid : hget (H ++ [.arr g e sz els]) H.length = some (.arr g e sz els) := by rw [hget_app0]; rfl
  have h1 : Weak m ⟨T, H ++ [.arr g e sz els]⟩ ⟨T', hset (H ++ [.arr g e sz els]) H.length .dead⟩ := weak_freeze H.length hm hid hT
  rw [hset_app0] at h1
  exact h1.trans (weak_trunc hm (LeT.refl _) hb hB)


/-- The end of a call whose new slice is taken as frozen. -/
theorem end_frz {P : Program} {fn : Func} {T : List AV} {H H1 : List AObj} {g : Nat} {e : TypeId} {sz : Nat} {els : List AV} {u v : AV} (hB : HB H) (hr : resT P fn T H1 = some u) (hH : H1 = H ++ [.arr g e sz els]) (hf : Frz H.length g els u v) (hb : Below' H.length v) :
    bodyEnd P fn H.length (fun x H' => x = .ret v ∧ H' = H) .ret ⟨T, H1⟩ := by
  subst hH
  exact ⟨u, hr, ⟨[v], H⟩, weak_frz (Nat.le_refl _) hB ⟨.inr hf, trivial⟩ (fun x hx => by simp only [List.mem_singleton] at hx; subst hx; exact hb), v, rfl, rfl, rfl⟩

theorem frz_all {id g n : Nat} {els : List AV} (h : n = els.length) : Frz id g els (.sl id g 0 n) (.fz els) := .sl 0 n els (by subst h; simp)

end Go.Proofs.Ytamoclnnakdiaaa.Abs
