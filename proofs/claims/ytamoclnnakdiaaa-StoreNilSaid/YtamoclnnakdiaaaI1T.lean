/-
  Slots and heaps as trees, for the kernel's sake.
  Conditions: none.
-/
import Derived.Test.YtamoclnnakdiaaaI1
namespace Go.Proofs.Ytamoclnnakdiaaa.Abs
open Go Go.RowKit
set_option linter.unusedVariables false
set_option linter.unusedSimpArgs false

inductive Tr (α : Type) where
  | leaf
  | node (x : Option α) (l r : Tr α)

/-- Written by recursors, and with Nat's own words, for the kernel's sake. -/
noncomputable def Tr.get {α : Type} (t : Tr α) : Nat → Option α :=
  Tr.rec (motive := fun _ => Nat → Option α) (fun _ => none) (fun x _ _ gl gr n => Nat.rec (motive := fun _ => Option α) x
    (fun m _ => Bool.rec (motive := fun _ => Option α) (gr (Nat.div m (nat_lit 2))) (gl (Nat.div m (nat_lit 2))) (Nat.beq (Nat.mod m (nat_lit 2)) (nat_lit 0))) n) t
/-- To a depth. -/
noncomputable def Tr.ins {α : Type} (k : Nat) : Tr α → Nat → α → Tr α :=
  Nat.rec (motive := fun _ => Tr α → Nat → α → Tr α) (fun t _ _ => t) (fun _ ih t n v =>
    Nat.rec (motive := fun _ => Tr α) (Tr.rec (motive := fun _ => Tr α) (.node (some v) .leaf .leaf) (fun _ l r _ _ => .node (some v) l r) t)
      (fun m _ => Bool.rec (motive := fun _ => Tr α)
        (Tr.rec (motive := fun _ => Tr α) (.node none .leaf (ih .leaf (Nat.div m (nat_lit 2)) v)) (fun x l r _ _ => .node x l (ih r (Nat.div m (nat_lit 2)) v)) t)
        (Tr.rec (motive := fun _ => Tr α) (.node none (ih .leaf (Nat.div m (nat_lit 2)) v) .leaf) (fun x l r _ _ => .node x (ih l (Nat.div m (nat_lit 2)) v) r) t)
        (Nat.beq (Nat.mod m (nat_lit 2)) (nat_lit 0))) n) k

theorem Tr.get_leaf {α : Type} (n : Nat) : (Tr.leaf : Tr α).get n = none := rfl
theorem bool_rec {α : Type} (a b : α) (c : Bool) : (Bool.rec (motive := fun _ => α) a b c) = bif c then b else a := by cases c <;> rfl
theorem Tr.get_node {α : Type} (x : Option α) (l r : Tr α) (n : Nat) : (Tr.node x l r).get n = (match n with
    | 0 => x
    | m + 1 => bif Nat.beq (m % 2) 0 then l.get (m / 2) else r.get (m / 2)) := by
  cases n with
  | zero => rfl
  | succ m => exact bool_rec _ _ _
theorem Tr.ins_node {α : Type} (k : Nat) (x : Option α) (l r : Tr α) (n : Nat) (v : α) : Tr.ins (k + 1) (.node x l r) n v = (match n with
    | 0 => .node (some v) l r
    | m + 1 => bif Nat.beq (m % 2) 0 then .node x (Tr.ins k l (m / 2) v) r else .node x l (Tr.ins k r (m / 2) v)) := by
  cases n with
  | zero => rfl
  | succ m => exact bool_rec _ _ _

theorem half_lt {k m : Nat} (h : m + 1 < 2 ^ (k + 1)) : m / 2 < 2 ^ k := by
  rw [Nat.pow_succ] at h
  omega

theorem beq_mod (m : Nat) : Nat.beq (m % 2) 0 = decide (m % 2 = 0) := by
  rcases Nat.mod_two_eq_zero_or_one m with h | h <;> rw [h] <;> rfl

theorem Tr.get_ins {α : Type} : ∀ (k : Nat) (t : Tr α) (n : Nat) (v : α) (j : Nat), n < 2 ^ k - 1 → (t.ins k n v).get j = if j = n then some v else t.get j
  | 0, t, n, v, j, h => by simp at h
  | k + 1, t, n, v, j, h => by
    have key : ∀ (x : Option α) (l r : Tr α), (Tr.ins (k + 1) (.node x l r) n v).get j = if j = n then some v else (Tr.node x l r).get j := by
      intro x l r
      rw [Tr.ins_node, Tr.get_node]
      cases n with
      | zero =>
        cases j with
        | zero => simp [Tr.get_node]
        | succ j => simp [Tr.get_node]
      | succ m =>
        have hm : m / 2 < 2 ^ k - 1 := by
          rw [Nat.pow_succ] at h
          omega
        simp only [beq_mod]
        by_cases hm2 : m % 2 = 0
        · simp only [hm2, decide_true, cond_true, Tr.get_node]
          cases j with
          | zero => simp
          | succ j =>
            simp only [beq_mod]
            by_cases hj2 : j % 2 = 0
            · simp only [hj2, decide_true, cond_true, Tr.get_ins k l (m / 2) v (j / 2) hm]
              have : j / 2 = m / 2 ↔ j + 1 = m + 1 := by omega
              simp only [this]
            · simp only [hj2, decide_false, cond_false]
              rw [if_neg (by omega)]
        · simp only [hm2, decide_false, cond_false, Tr.get_node]
          cases j with
          | zero => simp
          | succ j =>
            simp only [beq_mod]
            by_cases hj2 : j % 2 = 0
            · simp only [hj2, decide_true, cond_true]
              rw [if_neg (by omega)]
            · simp only [hj2, decide_false, cond_false, Tr.get_ins k r (m / 2) v (j / 2) hm]
              have : j / 2 = m / 2 ↔ j + 1 = m + 1 := by omega
              simp only [this]
    cases t with
    | node x l r => exact key x l r
    | leaf =>
      have := key none .leaf .leaf
      have h0 : Tr.ins (k + 1) (.leaf : Tr α) n v = Tr.ins (k + 1) (.node none .leaf .leaf) n v := by cases n <;> rfl
      rw [h0]
      rw [show (Tr.node none (.leaf : Tr α) .leaf).get j = (.leaf : Tr α).get j by rw [Tr.get_node]; cases j <;> simp [Tr.get_leaf]] at this
      exact this

theorem blt_no {i n : Nat} (h : ¬ i < n) : Nat.blt i n = false := by
  cases hq : Nat.blt i n with
  | false => rfl
  | true => simp at hq; omega

/-- A row of n things, those that are not told d. -/
structure Row (α : Type) where
  n : Nat
  t : Tr α

noncomputable def Row.at {α : Type} (d : α) (s : Row α) (i : Nat) : α := Row.rec (motive := fun _ => α) (fun n t => Bool.rec (motive := fun _ => α) d (Option.rec (motive := fun _ => α) d (fun x => x) (Tr.get t i)) (Nat.ble (Nat.succ i) n)) s
theorem Row.at_def {α : Type} (d : α) (s : Row α) (i : Nat) : s.at d i = bif Nat.blt i s.n then (s.t.get i).getD d else d := by
  obtain ⟨n, t⟩ := s
  show (Bool.rec (motive := fun _ => α) d (Option.rec (motive := fun _ => α) d (fun x => x) (Tr.get t i)) (Nat.ble (Nat.succ i) n)) = _
  rw [bool_rec]
  have : (Option.rec (motive := fun _ => α) d (fun x => x) (Tr.get t i)) = (t.get i).getD d := by cases t.get i <;> rfl
  rw [this]
  rfl
noncomputable def Row.toL {α : Type} (d : α) (s : Row α) : List α := (List.range s.n).map (s.at d)
noncomputable def Row.set {α : Type} (s : Row α) (i : Nat) (v : α) : Row α := Row.rec (motive := fun _ => Row α) (fun n t => ⟨n, Tr.ins (nat_lit 16) t i v⟩) s
noncomputable def Row.push {α : Type} (s : Row α) (v : α) : Row α := Row.rec (motive := fun _ => Row α) (fun n t => Nat.rec (motive := fun _ => Row α) ⟨Nat.succ n, Tr.ins (nat_lit 16) t n v⟩ (fun m _ => ⟨Nat.succ (Nat.succ m), Tr.ins (nat_lit 16) t (Nat.succ m) v⟩) n) s
theorem Row.push_eq {α : Type} (s : Row α) (v : α) : s.push v = ⟨s.n + 1, s.t.ins 16 s.n v⟩ := by
  obtain ⟨n, t⟩ := s
  cases n <;> rfl
/-- Is a place within what trees hold? -/
def okI (i : Nat) : Bool := Nat.ble (Nat.succ i) (nat_lit 65535)

theorem Row.toL_length {α : Type} (d : α) (s : Row α) : (s.toL d).length = s.n := by simp [Row.toL]
theorem Row.toL_get {α : Type} (d : α) (s : Row α) (i : Nat) : (s.toL d)[i]? = if i < s.n then some (s.at d i) else none := by
  unfold Row.toL
  rw [List.getElem?_map]
  split
  · rename_i h; rw [List.getElem?_range h]; rfl
  · rename_i h; rw [List.getElem?_eq_none (by simpa using h)]; rfl
theorem Row.at_eq {α : Type} (d : α) (s : Row α) (i : Nat) : s.at d i = (s.toL d).getD i d := by
  rw [List.getD_eq_getElem?_getD, Row.toL_get]
  rw [Row.at_def]
  split
  · rename_i h
    have : Nat.blt i s.n = true := by simpa using h
    rw [this]
    simp [Row.at_def, this]
  · rename_i h
    have : Nat.blt i s.n = false := blt_no h
    rw [this]
    rfl
theorem Row.at_set {α : Type} (d : α) (s : Row α) (i j : Nat) (v : α) (hi : okI i = true) (hj : j < s.n) : (s.set i v).at d j = if j = i then v else s.at d j := by
  have hi' : i < 65535 := by exact Nat.le_of_ble_eq_true hi
  have hb : Nat.blt j s.n = true := by simpa using hj
  rw [Row.at_def, Row.at_def]
  obtain ⟨n, t⟩ := s
  unfold Row.set
  simp only [hb, cond_true]
  rw [Tr.get_ins 16 _ _ _ _ (by omega)]
  split <;> rfl
theorem Row.toL_set {α : Type} (d : α) (s : Row α) (i : Nat) (v : α) (hi : okI i = true) : (s.set i v).toL d = (s.toL d).set i v := by
  apply List.ext_getElem?
  intro j
  rw [Row.toL_get, List.getElem?_set, Row.toL_get, Row.toL_length]
  show (if j < s.n then some ((s.set i v).at d j) else none) = _
  by_cases hj : j < s.n
  · rw [if_pos hj, if_pos hj, Row.at_set d s i j v hi hj]
    by_cases hij : i = j
    · subst hij; simp [hj]
    · rw [if_neg hij, if_neg (fun h => hij h.symm)]
  · rw [if_neg hj, if_neg hj]
    by_cases hij : i = j
    · subst hij; simp [hj]
    · rw [if_neg hij]
theorem Row.toL_push {α : Type} (d : α) (s : Row α) (v : α) (hi : okI s.n = true) : (s.push v).toL d = s.toL d ++ [v] := by
  have hi' : s.n < 65535 := by exact Nat.le_of_ble_eq_true hi
  apply List.ext_getElem?
  intro j
  rw [Row.toL_get]
  have hpn : (s.push v).n = s.n + 1 := by rw [Row.push_eq]
  rw [hpn]
  have hat : j < s.n + 1 → (s.push v).at d j = if j = s.n then v else s.at d j := by
    intro hj
    have hb : Nat.blt j (s.n + 1) = true := by simpa using hj
    rw [Row.at_def, Row.at_def]
    rw [Row.push_eq]
    simp only [hb, cond_true]
    rw [Tr.get_ins 16 _ _ _ _ (by omega)]
    by_cases hjn : j = s.n
    · simp [hjn]
    · have hb2 : Nat.blt j s.n = true := by simp; omega
      simp [hjn, hb2]
  rcases Nat.lt_trichotomy j s.n with h | h | h
  · rw [List.getElem?_append_left (by rw [Row.toL_length]; exact h), Row.toL_get, if_pos (by omega), if_pos h, hat (by omega), if_neg (by omega)]
  · subst h
    rw [if_pos (by omega), hat (by omega), if_pos rfl, List.getElem?_append_right (by rw [Row.toL_length]; exact Nat.le_refl _), Row.toL_length]
    simp
  · rw [if_neg (by omega), List.getElem?_eq_none (by simp [Row.toL_length]; omega)]

/-- A row out of a list. -/
noncomputable def Row.ofL {α : Type} (n : Nat) (l : List α) : Nat → Tr α → Tr α :=
  List.rec (motive := fun _ => Nat → Tr α → Tr α) (fun _ t => t) (fun x _ ih i t => ih (Nat.succ i) (Tr.ins (nat_lit 16) t i x)) l
theorem Row.ofL_get {α : Type} (n : Nat) : ∀ (l : List α) (i : Nat) (t : Tr α) (j : Nat), i + l.length ≤ 65535 → (Row.ofL n l i t).get j = if i ≤ j ∧ j < i + l.length then l[j - i]? else t.get j
  | [], i, t, j, h => by
    simp only [List.length_nil, Nat.add_zero]
    rw [if_neg (by omega)]
    rfl
  | x :: l, i, t, j, h => by
    simp only [List.length_cons] at h
    have hu : Row.ofL n (x :: l) i t = Row.ofL n l (i + 1) (t.ins 16 i x) := rfl
    rw [hu]
    simp only [List.length_cons]
    rw [Row.ofL_get n l (i + 1) _ j (by omega), Tr.get_ins 16 t i x j (by omega)]
    by_cases h1 : j = i
    · subst h1
      rw [if_neg (by omega), if_pos rfl, if_pos (by omega)]
      simp
    · by_cases h2 : i + 1 ≤ j ∧ j < i + 1 + l.length
      · rw [if_pos h2, if_pos (by omega)]
        have : j - i = (j - (i + 1)) + 1 := by omega
        rw [this, List.getElem?_cons_succ]
      · rw [if_neg h2, if_neg h1, if_neg (by omega)]

noncomputable def Row.of {α : Type} (n : Nat) (l : List α) : Row α := ⟨n, Row.ofL n l 0 .leaf⟩
theorem Row.toL_of {α : Type} (d : α) (n : Nat) (l : List α) (h1 : l.length ≤ n) (h2 : Nat.ble l.length 65535 = true) : (Row.of n l).toL d = l ++ List.replicate (n - l.length) d := by
  have h2' : l.length ≤ 65535 := by simpa using h2
  apply List.ext_getElem?
  intro j
  rw [Row.toL_get]
  show (if j < n then some ((Row.of n l).at d j) else none) = _
  by_cases hj : j < n
  · rw [if_pos hj]
    have hb : Nat.blt j n = true := by simpa using hj
    have hat : (Row.of n l).at d j = (l[j]?).getD d := by
      rw [Row.at_def]
      unfold Row.of
      simp only [hb, cond_true]
      rw [Row.ofL_get n l 0 .leaf j (by omega)]
      by_cases hl : j < l.length
      · rw [if_pos (by omega)]; simp
      · rw [if_neg (by omega), Tr.get_leaf, List.getElem?_eq_none (by omega)]
    rw [hat]
    by_cases hl : j < l.length
    · rw [List.getElem?_append_left hl, List.getElem?_eq_getElem hl]; rfl
    · rw [List.getElem?_append_right (by omega), List.getElem?_eq_none (by omega), List.getElem?_replicate, if_pos (by omega)]; rfl
  · rw [if_neg hj, List.getElem?_eq_none (by simp; omega)]

/-- Slots. -/
abbrev Sl := Row AV
noncomputable abbrev Sl.l (T : Sl) : List AV := Row.toL .junk T
/-- A heap. -/
abbrev Hp := Row AObj
noncomputable abbrev Hp.l (H : Hp) : List AObj := Row.toL .dead H

theorem look_sl (T : Sl) (t : Nat) : look T.l t = Row.at .junk T t := by rw [look_eq, Row.at_eq]
noncomputable def evS (T : Sl) (x : Operand) : AV :=
  Operand.rec (motive := fun _ => AV) (fun t => Row.at .junk T t) (fun v => cv v) (fun _ => .junk) (fun f => .fn (.func f) [] []) x
theorem evS_eq (T : Sl) : evS T = ev T.l := by
  funext x
  cases x <;> first | rfl | exact (look_sl T _).symm
noncomputable def putS (T : Sl) (d : Option Tmp) (v : AV) : Sl := Option.rec (motive := fun _ => Sl) T (fun d => T.set d v) d
def okD : Option Tmp → Bool
  | some d => okI d
  | none => true
theorem putS_eq (T : Sl) (d : Option Tmp) (v : AV) (h : okD d = true) : (putS T d v).l = put T.l d v := by
  cases d with
  | none => rfl
  | some d => simp only [putS, put, putT_eq]; exact Row.toL_set _ _ _ _ h
noncomputable def hgetS (H : Hp) (id : Nat) : Option AObj := Row.rec (motive := fun _ => Option AObj) (fun n t => Bool.rec (motive := fun _ => Option AObj) none (Option.rec (motive := fun _ => Option AObj) (some .dead) (fun x => some x) (Tr.get t id)) (Nat.ble (Nat.succ id) n)) H
theorem hgetS_eq (H : Hp) : hgetS H = hget H.l := by
  funext id
  unfold hget
  rw [Row.toL_get]
  obtain ⟨n, t⟩ := H
  show (Bool.rec (motive := fun _ => Option AObj) none (Option.rec (motive := fun _ => Option AObj) (some .dead) (fun x => some x) (Tr.get t id)) (Nat.ble (Nat.succ id) n)) = _
  rw [bool_rec, Row.at_def]
  have h0 : (Option.rec (motive := fun _ => Option AObj) (some .dead) (fun x => some x) (Tr.get t id)) = some ((t.get id).getD .dead) := by cases t.get id <;> rfl
  rw [h0]
  split
  · rename_i h
    have hb : Nat.blt id n = true := by simpa using h
    have hb' : Nat.ble (Nat.succ id) n = true := hb
    simp [hb, hb']
  · rename_i h
    have hb : Nat.ble (Nat.succ id) n = false := blt_no h
    rw [hb]
    rfl
noncomputable def haS (H : Hp) : HA → Hp
  | .push o => H.push o
  | .set id o => H.set id o
def haOK (H : Hp) : HA → Bool
  | .push _ => okI H.n
  | .set id _ => okI id
theorem haS_eq (H : Hp) (a : HA) (h : haOK H a = true) : (haS H a).l = a.app H.l := by
  cases a with
  | push o => exact Row.toL_push _ _ _ h
  | set id o => exact Row.toL_set _ _ _ _ h
theorem hp_len (H : Hp) : H.l.length = H.n := Row.toL_length _ _

end Go.Proofs.Ytamoclnnakdiaaa.Abs
