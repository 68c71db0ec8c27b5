/-
  Operations that only compute, and addresses: fields, elements, numbers, texts, comparisons, structs, interfaces, functions.
  Conditions: none.
-/
import Derived.Test.YtamoclnnakdiaaaA3
import Derived.Laws.StructEq
import Derived.Laws.Strings
import Derived.LaidEqlPtr
import Derived.Laws.Cover3
namespace Go.Proofs.Ytamoclnnakdiaaa.Abs
open Go Go.RowKit
set_option linter.unusedVariables false
set_option linter.unusedSimpArgs false

theorem Rep.inv_str {ρ : Nat → Nat} {H : List AObj} {w : World} {s : List UInt8} {v : Value} (h : Rep ρ H w (.str s) v) : ∃ b : ByteArray, v = .string b ∧ b.data.toList = s := by
  cases h with
  | str _ b h1 => exact ⟨b, rfl, h1⟩

theorem Rep.inv_int {ρ : Nat → Nat} {H : List AObj} {w : World} {k : IntKind} {n : Int} {v : Value} (h : Rep ρ H w (.int k n) v) : v = .int k n := by cases h; rfl
theorem Rep.inv_bool {ρ : Nat → Nat} {H : List AObj} {w : World} {b : Bool} {v : Value} (h : Rep ρ H w (.bool b) v) : v = .bool b := by cases h; rfl

/-! ## fields -/
def kFieldAddr (P : Program) (s : TypeId) (f : Nat) (H : List AObj) (K : AV → List AObj → Prop) (x : AV) : Prop :=
  match tf P s f, x with
  | some (o, _, _), .ptr id off => K (.ptr id (off + o)) H
  | some (o, _, _), .eptr id g i off => K (.eptr id g i (off + o)) H
  | some (o, _, _), .fptr cs => K (.fptr (cs.drop o)) H
  | _, _ => False

theorem tf_spec {P : Program} {s : TypeId} {f o n : Nat} {g : Bool} (h : tf P s f = some (o, g, n)) :
    ∃ fs fl, P.underlying s = some (.struct fs) ∧ fs[f]? = some fl ∧ fl.offset = o ∧ tc P fl.type = some (g, n) ∧ n ≠ 0 := by
  unfold tf at h
  split at h
  · rename_i fs hu
    split at h
    · rename_i fl hf
      split at h
      · rename_i g' n' ht
        cases h
        exact ⟨fs, fl, hu, hf, rfl, ht, by omega⟩
      · cases h
    · cases h
  · cases h

theorem run_fieldAt {P : Program} {s : TypeId} {f o n : Nat} {g : Bool} (h : tf P s f = some (o, g, n)) (w : World) (a : Addr) :
    (Instr.fieldAt s (.pointer (some a)) f).run P w = .ok (.pointer (some (a.add o))) w := by
  obtain ⟨fs, fl, hu, hf, ho, ht, hn⟩ := tf_spec h
  have hs := (tc_isAgg ht w).2
  simp [Instr.fieldAt, run_underlying hu, hf, Instr.sureAddr, fieldPlace, hs, hn, ho]

theorem kFieldAddr_sound {P : Program} {s : TypeId} {f : Nat} {H : List AObj} {K : AV → List AObj → Prop} {x : AV} {v : Value} {ρ : Nat → Nat} {w : World}
    (h : kFieldAddr P s f H K x) (hx : Rep ρ H w x v) (hh : HeapOK ρ H w) : Yield P (Instr.fieldAt s v f) ρ H w K := by
  unfold kFieldAddr at h
  split at h
  · rename_i o g n id off htf
    cases hx with
    | ptr _ _ cs h1 =>
      refine Yield.pure hh (run_fieldAt htf w _) h ?_
      rw [add_off]
      exact .ptr id _ cs h1
  · rename_i o g n id g' i off htf
    cases hx with
    | eptr _ _ _ _ e sz els h1 h2 =>
      refine Yield.pure hh (run_fieldAt htf w _) h ?_
      rw [add_off, Nat.add_assoc]
      exact .eptr id g' i (off + o) e sz els h1 h2
    | eptr_stale _ _ _ _ a hs => exact Yield.pure hh (run_fieldAt htf w _) h (.eptr_stale id g' i (off + o) _ hs)
  · rename_i o g n cs htf
    cases hx with
    | fptr _ a vals h1 h2 h3 h4 h5 h6 =>
      refine Yield.pure hh (run_fieldAt htf w _) h ?_
      have ha : a = ⟨a.block, a.off, none⟩ := by cases a; simp_all
      rw [ha, add_off]
      refine .fptr (cs.drop o) _ (fun k => vals (o + k)) rfl h2 h3 ?_ ?_ ?_
      · intro k x hk
        rw [List.getElem?_drop] at hk
        rw [Nat.add_assoc]
        exact h4 _ x hk
      · intro k x hk
        rw [List.getElem?_drop] at hk
        exact h5 _ x hk
      · intro k x hk
        rw [List.getElem?_drop] at hk
        exact h6 _ x hk
  · exact h.elim

def kField (P : Program) (s : TypeId) (f : Nat) (H : List AObj) (K : AV → List AObj → Prop) (x : AV) : Prop :=
  match tf P s f, x with
  | some (o, true, n), .agg cs => o + n ≤ cs.length ∧ K (.agg ((cs.drop o).take n)) H
  | some (o, false, _), .agg cs => o < cs.length ∧ K (look cs o) H
  | _, _ => False

theorem extract_getD (vs : Array Value) {o n k : Nat} (h : o + n ≤ vs.size) (hk : k < n) : (vs.extract o (o + n)).getD k undef = vs.getD (o + k) undef := by
  have h1 : k < (vs.extract o (o + n)).size := by simp; omega
  have h2 : o + k < vs.size := by omega
  simp only [Array.getD_eq_getD_getElem?, Array.getElem?_eq_getElem h1, Array.getElem?_eq_getElem h2, Array.getElem_extract]

theorem kField_sound {P : Program} {s : TypeId} {f : Nat} {H : List AObj} {K : AV → List AObj → Prop} {x : AV} {v : Value} {ρ : Nat → Nat} {w : World}
    (h : kField P s f H K x) (hx : Rep ρ H w x v) (hh : HeapOK ρ H w) : Yield P (Instr.field s v f) ρ H w K := by
  unfold kField at h
  split at h
  · rename_i o n cs htf
    obtain ⟨hl, hK⟩ := h
    obtain ⟨fs, fl, hu, hf, ho, ht, hn⟩ := tf_spec htf
    obtain ⟨r1, r2⟩ := tc_isAgg ht w
    cases hx with
    | agg _ vs h1 h2 h3 =>
      refine Yield.pure hh (v := .agg (vs.extract o (o + n))) ?_ hK ?_
      · simp [Instr.field, run_underlying hu, hf, asAgg, part, r1, r2, ho]
      · refine .agg _ _ (by simp; omega) ?_ ?_
        · intro k x hk
          rw [List.getElem?_take] at hk
          split at hk
          · rename_i hkn
            rw [List.getElem?_drop] at hk
            have := h2 _ x hk
            rw [extract_getD vs (by omega) hkn]
            exact this
          · cases hk
        · intro k x hk
          rw [List.getElem?_take] at hk
          split at hk
          · rename_i hkn
            rw [List.getElem?_drop] at hk
            have := h3 _ x hk
            rw [extract_getD vs (by omega) hkn]
            exact this
          · cases hk
  · rename_i o n cs htf
    obtain ⟨hl, hK⟩ := h
    obtain ⟨fs, fl, hu, hf, ho, ht, hn⟩ := tf_spec htf
    obtain ⟨r1, r2⟩ := tc_isAgg ht w
    cases hx with
    | agg _ vs h1 h2 h3 =>
      have hlt : o < vs.size := by omega
      have hg : vs[o]? = some (vs.getD o undef) := by simp [hlt]
      refine Yield.pure hh (v := vs.getD o undef) ?_ hK ?_
      · simp only [Instr.field, Sem.run_bind, run_underlying hu, Result.andThen_ok, hf, asAgg, Sem.run_pure, part, r1, ho, hg]
        simp
      · rw [look_eq, List.getD_eq_getElem?_getD, List.getElem?_eq_getElem hl]
        exact h3 o _ (List.getElem?_eq_getElem hl)
  · exact h.elim

/-! ## elements -/
/-- An array type: how many elements, is each of many cells, how many. -/
def ta (P : Program) (t : TypeId) : Option (Nat × Bool × Nat) :=
  match P.underlying t with
  | some (.array len e) =>
    match tc P e with
    | some (g, sz) => some (len, g, sz)
    | none => none
  | _ => none

theorem ta_spec {P : Program} {t : TypeId} {len : Nat} {g : Bool} {sz : Nat} (h : ta P t = some (len, g, sz)) : ∃ e, P.underlying t = some (.array len e) ∧ tc P e = some (g, sz) := by
  unfold ta at h
  split at h
  · rename_i len' e hu
    split at h
    · rename_i g' sz' ht
      cases h
      exact ⟨e, hu, ht⟩
    · cases h
  · cases h

def kIndexAddr (P : Program) (t : TypeId) (H : List AObj) (K : AV → List AObj → Prop) (x i : AV) : Prop :=
  match te P t, x, i with
  | some (_, sz), .fz xs, .int _ n => 0 ≤ n ∧ n < xs.length ∧ (look xs n.toNat).cells.length = sz ∧ K (.fptr (look xs n.toNat).cells) H
  | some (_, sz), .sl id g off len, .int _ n =>
    match hget H id with
    | some (.arr g' _ sz' els) => g = g' ∧ 0 ≤ n ∧ n < len ∧ sz' = sz ∧ K (.eptr id g (off + n.toNat) 0) H
    | _ => False
  | _, .ptr id off, .int _ n =>
    match ta P t with
    | some (len, g, sz) => 0 ≤ n ∧ n < len ∧ K (.ptr id (off + n.toNat * sz)) H
    | none => False
  | _, _, _ => False

theorem te_spec {P : Program} {t : TypeId} {e : TypeId} {sz : Nat} (h : te P t = some (e, sz)) : P.underlying t = some (.slice e) ∧ ∃ i, P.info? e = some i ∧ i.size = sz := by
  unfold te at h
  split at h
  · rename_i e' hu
    split at h
    · rename_i i hi
      cases h
      exact ⟨hu, i, hi, rfl⟩
    · cases h
  · cases h

theorem run_indexAt {P : Program} {t : TypeId} {e : TypeId} {sz : Nat} (h : te P t = some (e, sz)) (w : World) (a : Addr) (len cap : Nat) (k : IntKind) (n : Int) (h0 : 0 ≤ n) (h1 : n < len) :
    (Instr.indexAt t (.slice (some a) len cap) (.int k n)).run P w = .ok (.pointer (some (a.add (n.toNat * sz)))) w := by
  obtain ⟨hu, i, hi, hs⟩ := te_spec h
  have hsz : (sizeOf e).run P w = .ok sz w := by simp [sizeOf, typeInfo, hi, hs]
  simp only [Instr.indexAt, asIntOf, Sem.run_bind, Sem.run_pure, Result.andThen_ok, run_underlying hu]
  simp [h0, h1, hsz, run_underlying hu]

theorem kIndexAddr_sound {P : Program} {t : TypeId} {H : List AObj} {K : AV → List AObj → Prop} {x i : AV} {v iv : Value} {ρ : Nat → Nat} {w : World}
    (h : kIndexAddr P t H K x i) (hx : Rep ρ H w x v) (hi : Rep ρ H w i iv) (hh : HeapOK ρ H w) : Yield P (Instr.indexAt t v iv) ρ H w K := by
  unfold kIndexAddr at h
  split at h
  · rename_i e sz xs k n hte
    obtain ⟨h0, h1, h2, hK⟩ := h
    obtain rfl := hi.inv_int
    have hlt : n.toNat < xs.length := by omega
    cases hx with
    | fz_emp a c => simp at hlt
    | fz _ sz' a c vals g1 g2 g3 g4 g5 g6 g7 g8 =>
      have hsz' : sz' = sz := by rw [← h2]; exact (g5 _ (look_mem hlt)).symm
      subst hsz'
      refine Yield.pure hh (run_indexAt hte w a xs.length c k n h0 h1) hK ?_
      have ha : a = ⟨a.block, a.off, none⟩ := by cases a; simp_all
      rw [ha, add_off]
      have key : ∀ (j : Nat) (y : AV), (look xs n.toNat).cells[j]? = some y → (flat xs)[n.toNat * sz' + j]? = some y := by
        intro j y hj
        have := lt_of_get hj
        rw [flat_get g5 hlt (by omega)]
        exact hj
      refine .fptr _ _ (fun j => vals (n.toNat * sz' + j)) rfl g2 g3 ?_ ?_ ?_
      · intro j y hj
        have := g6 _ y (key j y hj)
        rw [← Nat.add_assoc] at this
        exact this
      · intro j y hj; exact g7 _ y (key j y hj)
      · intro j y hj; exact g8 _ y (key j y hj)
  · rename_i e sz id g off len k n hte
    obtain rfl := hi.inv_int
    split at h
    · rename_i g' e' sz' els hid
      obtain ⟨rfl, h0, h1, h2, hK⟩ := h
      subst h2
      cases hx with
      | sl _ _ _ _ e1 sz1 els1 cap cur k1 k2 k3 k4 k5 k6 k7 =>
        unfold hget at hid
        rw [k1] at hid
        cases hid
        refine Yield.pure hh (run_indexAt hte w _ len cap k n h0 h1) hK ?_
        rw [add_off, show off * sz' + n.toNat * sz' = (off + n.toNat) * sz' + 0 by rw [Nat.add_mul]; omega]
        exact .eptr id g (off + n.toNat) 0 e' sz' els k1 k2
      | sl_emp _ _ e1 sz1 a k1 => omega
      | sl_stale _ _ _ _ a n1 c hs =>
        unfold hget at hid
        rcases hs with ⟨g2, e2, sz2, els2, q1, q2⟩ | q1
        · rw [q1] at hid; cases hid; omega
        · rw [q1] at hid; cases hid
    · exact h.elim
  · rename_i id off k n
    obtain rfl := hi.inv_int
    split at h
    · rename_i len g sz hta
      obtain ⟨h0, h1, hK⟩ := h
      obtain ⟨e, hu, ht⟩ := ta_spec hta
      obtain ⟨r1, r2⟩ := tc_isAgg ht w
      cases hx with
      | ptr _ _ cs hid =>
        refine Yield.pure hh (v := .pointer (some ⟨ρ id, off + n.toNat * sz, none⟩)) ?_ hK (.ptr id _ cs hid)
        simp only [Instr.indexAt, Instr.sureAddr, asIntOf, Sem.run_bind, Sem.run_pure, Result.andThen_ok, run_underlying hu]
        simp [h0, h1, r2, run_underlying hu, add_off]
    · exact h.elim
  · exact h.elim

/-- The n-th byte. -/
def bAt (s : List UInt8) (n : Nat) : UInt8 := s.getD n 0

def kIndex (P : Program) (t : TypeId) (H : List AObj) (K : AV → List AObj → Prop) (x i : AV) : Prop :=
  match P.underlying t, x, i with
  | some .string, .str s, .int _ n => 0 ≤ n ∧ n < s.length ∧ K (.int .u8 ((bAt s n.toNat).toNat : Int)) H
  | _, .agg cs, .int _ n =>
    match ta P t with
    | some (len, true, sz) => 0 ≤ n ∧ n < len ∧ n.toNat * sz + sz ≤ cs.length ∧ K (.agg ((cs.drop (n.toNat * sz)).take sz)) H
    | some (len, false, sz) => 0 ≤ n ∧ n < len ∧ n.toNat * sz < cs.length ∧ K (look cs (n.toNat * sz)) H
    | none => False
  | _, _, _ => False

theorem byte_get (b : ByteArray) (n : Nat) (h : n < b.data.toList.length) : b[n]? = some (bAt b.data.toList n) := by
  have h' : n < b.size := by rw [Array.length_toList] at h; exact h
  rw [getElem?_pos b n h']
  congr 1
  simp [bAt, List.getD_eq_getElem?_getD, List.getElem?_eq_getElem h]
  rfl

theorem kIndex_sound {P : Program} {t : TypeId} {H : List AObj} {K : AV → List AObj → Prop} {x i : AV} {v iv : Value} {ρ : Nat → Nat} {w : World}
    (h : kIndex P t H K x i) (hx : Rep ρ H w x v) (hi : Rep ρ H w i iv) (hh : HeapOK ρ H w) : Yield P (Instr.index t v iv) ρ H w K := by
  unfold kIndex at h
  split at h
  · rename_i s k n hu
    obtain ⟨h0, h1, hK⟩ := h
    obtain rfl := hi.inv_int
    obtain ⟨b, rfl, rfl⟩ := hx.inv_str
    refine Yield.pure hh (v := .int .u8 ((bAt b.data.toList n.toNat).toNat : Int)) ?_ hK (.int _ _)
    have hb := byte_get b n.toNat (by omega)
    simp only [Instr.index, asIntOf, Sem.run_bind, Sem.run_pure, Result.andThen_ok, run_underlying hu, h0, if_true, hb]
  · rename_i cs k n
    obtain rfl := hi.inv_int
    split at h
    · rename_i len sz hta
      obtain ⟨h0, h1, hl, hK⟩ := h
      obtain ⟨e, hu, ht⟩ := ta_spec hta
      obtain ⟨r1, r2⟩ := tc_isAgg ht w
      cases hx with
      | agg _ vs q1 q2 q3 =>
        refine Yield.pure hh (v := .agg (vs.extract (n.toNat * sz) (n.toNat * sz + sz))) ?_ hK ?_
        · simp only [Instr.index, asIntOf, Sem.run_bind, Sem.run_pure, Result.andThen_ok, run_underlying hu]
          simp [h0, h1, part, r1, r2]
        · refine .agg _ _ (by simp; omega) ?_ ?_
          · intro k x hk
            rw [List.getElem?_take] at hk
            split at hk
            · rename_i hkn
              rw [List.getElem?_drop] at hk
              have := q2 _ x hk
              rw [extract_getD vs (by omega) hkn]
              exact this
            · cases hk
          · intro k x hk
            rw [List.getElem?_take] at hk
            split at hk
            · rename_i hkn
              rw [List.getElem?_drop] at hk
              have := q3 _ x hk
              rw [extract_getD vs (by omega) hkn]
              exact this
            · cases hk
    · rename_i len sz hta
      obtain ⟨h0, h1, hl, hK⟩ := h
      obtain ⟨e, hu, ht⟩ := ta_spec hta
      obtain ⟨r1, r2⟩ := tc_isAgg ht w
      cases hx with
      | agg _ vs q1 q2 q3 =>
        have hlt : n.toNat * sz < vs.size := by omega
        have hg : vs[n.toNat * sz]? = some (vs.getD (n.toNat * sz) undef) := by simp [hlt]
        refine Yield.pure hh (v := vs.getD (n.toNat * sz) undef) ?_ hK ?_
        · simp only [Instr.index, asIntOf, Sem.run_bind, Sem.run_pure, Result.andThen_ok, run_underlying hu]
          simp only [h0, h1, and_self, if_true, Sem.run_bind, r2, Result.andThen_ok, part, r1, Bool.false_eq_true, if_false, hg, Sem.run_pure]
        · rw [look_eq, List.getD_eq_getElem?_getD, List.getElem?_eq_getElem hl]
          exact q3 _ _ (List.getElem?_eq_getElem hl)
    · exact h.elim
  · exact h.elim

/-! ## numbers, texts, comparisons -/
def binInt (op : BinOp) (k : IntKind) (a b : Int) : Option AV :=
  match op with
  | .add => some (.int k (k.wrap (a + b)))
  | .sub => some (.int k (k.wrap (a - b)))
  | .mul => some (.int k (k.wrap (a * b)))
  | .eql => some (.bool (a == b))
  | .neq => some (.bool (a != b))
  | .lss => some (.bool (decide (a < b)))
  | .leq => some (.bool (decide (a ≤ b)))
  | .gtr => some (.bool (decide (a > b)))
  | .geq => some (.bool (decide (a ≥ b)))
  | _ => none

def binStr (op : BinOp) (a b : List UInt8) : Option AV :=
  match op with
  | .eql => some (.bool (a == b))
  | .neq => some (.bool (!(a == b)))
  | .lss => some (.bool (Op.bytesLess a b))
  | .leq => some (.bool (Op.bytesLess a b || a == b))
  | .gtr => some (.bool (!(Op.bytesLess a b || a == b)))
  | .geq => some (.bool (!(Op.bytesLess a b)))
  | _ => none

/-- Kinds of a plain struct's fields. -/
inductive FK where
  | int
  | str
  | bool

def fkOf (P : Program) (t : TypeId) : Option FK :=
  match P.underlying t with
  | some (.int _) => some .int
  | some .string => some .str
  | some .bool => some .bool
  | _ => none

def fks (P : Program) : List Field → Nat → Option (List FK)
  | [], _ => some []
  | f :: fs, n =>
    match fkOf P f.type, tc P f.type, decide (f.offset = n ∧ f.name ≠ "_"), fks P fs (n + 1) with
    | some k, some (false, _), true, some ks => some (k :: ks)
    | _, _, _, _ => none

/-- A struct type that is compared field by field: its fields' kinds. -/
def tq (P : Program) (t : TypeId) : Option (List FK) :=
  match P.underlying t, P.stoodInHeld t, P.eqGuardType P.depth t with
  | some (.struct fs), false, false => fks P fs.toList 0
  | _, _, _ => none

def eqA : List FK → List AV → List AV → Option Bool
  | [], [], [] => some true
  | .int :: ks, .int k a :: xs, .int k' b :: ys =>
    if k = k' then (eqA ks xs ys).map (fun r => a == b && r) else none
  | .str :: ks, .str a :: xs, .str b :: ys => (eqA ks xs ys).map (fun r => a == b && r)
  | .bool :: ks, .bool a :: xs, .bool b :: ys => (eqA ks xs ys).map (fun r => a == b && r)
  | _, _, _ => none

/-- A pointer type whose elements have cells. -/
def tptr (P : Program) (t : TypeId) : Bool :=
  match P.underlying t with
  | some (.pointer e) =>
    match P.info? e with
    | some j => j.size != 0
    | none => false
  | _ => false

def isVar : Option AObj → Bool
  | some (.var _) => true
  | _ => false

/-- What a comparison of pointers gives. -/
def ptrCmp (H : List AObj) : AV → AV → Option Bool
  | .nilp, .nilp => some true
  | .ptr _ _, .nilp => some false
  | .eptr _ _ _ _, .nilp => some false
  | .fptr _, .nilp => some false
  | .nilp, .ptr _ _ => some false
  | .ptr i o, .ptr j q => if isVar (hget H i) && isVar (hget H j) then some (decide (i = j ∧ o = q)) else none
  | _, _ => none

def ptrK (op : BinOp) (H : List AObj) (K : AV → List AObj → Prop) (r : Option Bool) : Prop :=
  match r, op with
  | some r, .eql => K (.bool r) H
  | some r, .neq => K (.bool (!r)) H
  | _, _ => False

def kBin (P : Program) (op : BinOp) (t : TypeId) (H : List AObj) (K : AV → List AObj → Prop) (x y : AV) : Prop :=
  match x, y with
  | .int k a, .int k' b => k = k' ∧ (match binInt op k a b with | some v => K v H | none => False)
  | .str a, .str b =>
    match op with
    | .add => a.length + b.length ≤ 9223372036854775807 ∧ K (.str (a ++ b)) H
    | _ => (match binStr op a b with | some v => K v H | none => False)
  | .bool a, .bool b => P.underlying t = some .bool ∧
    (match op with
     | .eql => K (.bool (a == b)) H
     | .neq => K (.bool (!(a == b))) H
     | _ => False)
  | .agg xs, .agg ys =>
    match tq P t with
    | some ks =>
      match eqA ks xs ys with
      | some r =>
        (match op with
         | .eql => K (.bool r) H
         | .neq => K (.bool (!r)) H
         | _ => False)
      | none => False
    | none => False
  | x, y => tptr P t = true ∧ ptrK op H K (ptrCmp H x y)

theorem tptr_spec {P : Program} {t : TypeId} (h : tptr P t = true) : ∃ e j, P.underlying t = some (.pointer e) ∧ P.info? e = some j ∧ j.size ≠ 0 := by
  unfold tptr at h
  split at h
  · rename_i e hu
    split at h
    · rename_i j hj
      exact ⟨e, j, hu, hj, by simpa using h⟩
    · cases h
  · cases h

/-- What a comparison of pointers comes to. -/
theorem run_ptrCmp {P : Program} {t : TypeId} {H : List AObj} {x y : AV} {v u : Value} {ρ : Nat → Nat} {w : World} {r : Bool} (ht : tptr P t = true) (h : ptrCmp H x y = some r)
    (hx : Rep ρ H w x v) (hy : Rep ρ H w y u) (hh : HeapOK ρ H w) : (Op.equal t v u).run P w = .ok r w ∧ ∀ op ox oy, (eqGuard op t ox oy v u).run P w = .ok () w := by
  obtain ⟨e, j, hu, hj, hsz⟩ := tptr_spec ht
  have hun := run_underlying (w := w) hu
  suffices hs : ∀ d : Nat, (Op.equalIn (d + 1) t v u).run P w = .ok r w ∧ ∀ op ox oy, (eqGuard op t ox oy v u).run P w = .ok () w from ⟨(hs 9999).1, (hs 0).2⟩
  intro d
  unfold ptrCmp at h
  split at h <;> try (cases h; done)
  · cases h; cases hx; cases hy
    exact ⟨by simp [Op.equalIn, hun], fun op ox oy => by cases op <;> simp [eqGuard]⟩
  · cases h; cases hx; cases hy
    exact ⟨by simp [Op.equalIn, hun], fun op ox oy => by cases op <;> simp [eqGuard]⟩
  · cases h
    cases hy
    cases hx <;> exact ⟨by simp [Op.equalIn, hun], fun op ox oy => by cases op <;> simp [eqGuard]⟩
  · cases h; cases hx; cases hy
    exact ⟨by simp [Op.equalIn, hun], fun op ox oy => by cases op <;> simp [eqGuard]⟩
  · cases h; cases hx; cases hy
    exact ⟨by simp [Op.equalIn, hun], fun op ox oy => by cases op <;> simp [eqGuard]⟩
  · rename_i i o k q
    split at h
    · rename_i hv
      simp only [Bool.and_eq_true] at hv
      cases h
      cases hx with
      | ptr _ _ c1 h1 =>
        cases hy with
        | ptr _ _ c2 h2 =>
          refine ⟨?_, fun op ox oy => by cases op <;> simp [eqGuard]⟩
          obtain ⟨cur1, e1, b1, _⟩ := hh.var i c1 h1
          obtain ⟨cur2, e2, b2, _⟩ := hh.var k c2 h2
          by_cases hik : i = k ∧ o = q
          · obtain ⟨rfl, rfl⟩ := hik
            simp [Op.equalIn, hun, sizeOf, typeInfo, hj, run_sameAddr_same]
          · have hne : (⟨ρ i, o, none⟩ : Addr) ≠ ⟨ρ k, q, none⟩ := by
              intro hc
              simp only [Addr.mk.injEq, and_true] at hc
              exact hik ⟨hh.inj i k _ _ h1 trivial h2 trivial hc.1, hc.2⟩
            simp [Op.equalIn, hun, sizeOf, typeInfo, hj, hsz, run_sameAddr_other w hne b1 b2, hik]
    · cases h

theorem ptrCmp_ptr {H : List AObj} {x y : AV} {v u : Value} {ρ : Nat → Nat} {w : World} {r : Bool} (h : ptrCmp H x y = some r) (hx : Rep ρ H w x v) (hy : Rep ρ H w y u) : (∃ p, v = .pointer p) ∧ ∃ q, u = .pointer q := by
  unfold ptrCmp at h
  split at h <;> try (cases h; done)
  all_goals cases hx <;> cases hy <;> exact ⟨⟨_, rfl⟩, ⟨_, rfl⟩⟩

theorem fks_run {P : Program} {w : World} {ρ : Nat → Nat} {H : List AObj} (d : Nat) {X Y : Array Value} : ∀ (fs : List Field) (n : Nat) (ks : List FK) (xs ys : List AV) (r : Bool),
    fks P fs n = some ks → eqA ks xs ys = some r → (∀ (k : Nat) (x : AV), xs[k]? = some x → X[n + k]? = some (X.getD (n + k) undef) ∧ Rep ρ H w x (X.getD (n + k) undef)) →
    (∀ (k : Nat) (y : AV), ys[k]? = some y → Y[n + k]? = some (Y.getD (n + k) undef) ∧ Rep ρ H w y (Y.getD (n + k) undef)) → (Op.eqFields (d + 1) X Y fs).run P w = .ok r w := by
  intro fs
  induction fs with
  | nil =>
    intro n ks xs ys r h1 h2 h3 h4
    simp only [fks, Option.some.injEq] at h1
    subst h1
    unfold eqA at h2
    split at h2 <;> first | (cases h2; done) | skip
    · cases h2; simp [Op.eqFields]
    all_goals simp_all
  | cons f fs ih =>
    intro n ks xs ys r h1 h2 h3 h4
    simp only [fks] at h1
    split at h1
    · rename_i kd sz ks' g1 g2 g3 g4
      cases h1
      simp only [decide_eq_true_eq] at g3
      obtain ⟨ho, hnm⟩ := g3
      obtain ⟨r1, r2⟩ := tc_isAgg g2 w
      have step : ∀ (x y : AV) (xs' ys' : List AV) (b r' : Bool), xs = x :: xs' → ys = y :: ys' → eqA ks' xs' ys' = some r' → r = (b && r') →
          (∀ vx vy, Rep ρ H w x vx → Rep ρ H w y vy → (Op.equalIn (d + 1) f.type vx vy).run P w = .ok b w) → (Op.eqFields (d + 1) X Y (f :: fs)).run P w = .ok r w := by
        intro x y xs' ys' b r' hxs hys he hr heq
        subst hxs hys hr
        have gx := h3 0 x rfl
        have gy := h4 0 y rfl
        rw [Nat.add_zero] at gx gy
        have hb := heq _ _ gx.2 gy.2
        have htail := ih (n + 1) ks' xs' ys' r' g4 he
          (fun k z hk => by have := h3 (k + 1) z hk; rwa [show n + (k + 1) = n + 1 + k by omega] at this)
          (fun k z hk => by have := h4 (k + 1) z hk; rwa [show n + (k + 1) = n + 1 + k by omega] at this)
        simp only [Op.eqFields, if_pos hnm, Sem.run_bind, part, r1, Result.andThen_ok, Bool.false_eq_true, if_false, ho, gx.1, gy.1, Sem.run_pure, hb, Sem.run_ite]
        cases b
        · simp
        · simpa using htail
      unfold eqA at h2
      split at h2
      · simp at *
      · rename_i ks1 k a xs' k' b ys' hks
        split at h2
        · rename_i hkk
          subst hkk
          cases he : eqA ks1 xs' ys' with
          | none => rw [he] at h2; cases h2
          | some r' =>
            rw [he] at h2
            simp only [Option.map_some, Option.some.injEq] at h2
            simp only [List.cons.injEq] at hks
            obtain ⟨hk1, hk2⟩ := hks
            subst hk2
            refine step _ _ xs' ys' (a == b) r' rfl rfl he h2.symm ?_
            intro vx vy hx hy
            rw [hx.inv_int, hy.inv_int]
            subst hk1
            unfold fkOf at g1
            split at g1 <;> first | (cases g1; done) | skip
            rename_i hu
            exact run_equalIn_int w d f.type k _ a b hu
        · cases h2
      · rename_i ks1 a xs' b ys' hks
        cases he : eqA ks1 xs' ys' with
        | none => rw [he] at h2; cases h2
        | some r' =>
          rw [he] at h2
          simp only [Option.map_some, Option.some.injEq] at h2
          simp only [List.cons.injEq] at hks
          obtain ⟨hk1, hk2⟩ := hks
          subst hk2
          refine step _ _ xs' ys' (a == b) r' rfl rfl he h2.symm ?_
          intro vx vy hx hy
          obtain ⟨bx, rfl, rfl⟩ := hx.inv_str
          obtain ⟨by', rfl, rfl⟩ := hy.inv_str
          subst hk1
          unfold fkOf at g1
          split at g1 <;> first | (cases g1; done) | skip
          rename_i hu
          rw [run_equalIn_string w d f.type bx by' hu, ByteArray.toList_eq, ByteArray.toList_eq]
      · rename_i ks1 a xs' b ys' hks
        cases he : eqA ks1 xs' ys' with
        | none => rw [he] at h2; cases h2
        | some r' =>
          rw [he] at h2
          simp only [Option.map_some, Option.some.injEq] at h2
          simp only [List.cons.injEq] at hks
          obtain ⟨hk1, hk2⟩ := hks
          subst hk2
          refine step _ _ xs' ys' (a == b) r' rfl rfl he h2.symm ?_
          intro vx vy hx hy
          rw [hx.inv_bool, hy.inv_bool]
          subst hk1
          unfold fkOf at g1
          split at g1 <;> first | (cases g1; done) | skip
          rename_i hu
          exact run_equalIn_bool' w d f.type a b hu
      · cases h2
    · cases h1

theorem kBin_sound {P : Program} {op : BinOp} {t : TypeId} {H : List AObj} {K : AV → List AObj → Prop} {x y : AV} {v u : Value} {ρ : Nat → Nat} {w : World} (ox oy : Operand)
    (h : kBin P op t H K x y) (hx : Rep ρ H w x v) (hy : Rep ρ H w y u) (hh : HeapOK ρ H w) : Yield P (do eqGuard op t ox oy v u; binOp op t v u) ρ H w K := by
  have hg : ∀ (s : Sem Value) (r : Value), (eqGuard op t ox oy v u).run P w = .ok () w → s.run P w = .ok r w → ((do eqGuard op t ox oy v u; s) : Sem Value).run P w = .ok r w := by
    intro s r h1 h2
    simp only [Sem.run_bind, h1, Result.andThen_ok, h2]
  unfold kBin at h
  split at h
  · rename_i k a k' b
    obtain ⟨rfl, h⟩ := h
    obtain rfl := hx.inv_int
    obtain rfl := hy.inv_int
    have hgd : (eqGuard op t ox oy (.int k a) (.int k b)).run P w = .ok () w := by cases op <;> simp [eqGuard]
    cases op <;> simp only [binInt] at h <;> first | (exact h.elim) | skip
    all_goals refine Yield.pure hh (hg _ _ hgd ?_) h (by constructor)
    all_goals simp [binOp, Op.intArith, Op.intCmp]
  · rename_i a b
    obtain ⟨bx, rfl, rfl⟩ := hx.inv_str
    obtain ⟨by', rfl, rfl⟩ := hy.inv_str
    have hgd : (eqGuard op t ox oy (.string bx) (.string by')).run P w = .ok () w := by cases op <;> simp [eqGuard]
    split at h
    · obtain ⟨hl, hK⟩ := h
      refine Yield.pure hh (v := .string (bx ++ by')) (hg _ _ hgd ?_) hK (.str _ _ (by simp))
      have hsz : ¬ (((bx.size + by'.size : Nat) : Int) > IntKind.i64.max) := by
        have e1 : bx.data.toList.length = bx.size := by simp
        have e2 : by'.data.toList.length = by'.size := by simp
        rw [show IntKind.i64.max = (9223372036854775807 : Int) from rfl]
        omega
      simp only [binOp, Op.stringOp, if_neg hsz, Sem.run_pure]
    · rename_i hadd
      cases op <;> simp only [binStr] at h <;> first | (exact h.elim) | skip
      all_goals refine Yield.pure hh (hg _ _ hgd ?_) h (by constructor)
      all_goals simp [binOp, Op.stringOp, ByteArray.toList_eq]
  · rename_i a b
    obtain ⟨hu, h⟩ := h
    obtain rfl := hx.inv_bool
    obtain rfl := hy.inv_bool
    have hgd : (eqGuard op t ox oy (.bool a) (.bool b)).run P w = .ok () w := by cases op <;> simp [eqGuard]
    have heq := run_equalIn_bool' (P := P) w 9999 t a b hu
    cases op <;> simp only [] at h <;> first | (exact h.elim) | skip
    all_goals refine Yield.pure hh (hg _ _ hgd ?_) h (by constructor)
    all_goals simp [binOp, Op.equal, Op.maxDepth, heq]
  · rename_i xs ys
    cases htq : tq P t with
    | none => rw [htq] at h; exact h.elim
    | some ks =>
      rw [htq] at h
      simp only [] at h
      cases he : eqA ks xs ys with
      | none => rw [he] at h; exact h.elim
      | some r =>
        rw [he] at h
        simp only [] at h
        unfold tq at htq
        split at htq
        · rename_i fs hu hst hgu
          cases hx with
          | agg _ X a1 a2 a3 =>
            cases hy with
            | agg _ Y b1 b2 b3 =>
              have hfo : P.fieldsOf t = fs := by simp [Program.fieldsOf, hu]
              have hgd : (eqGuard op t ox oy (.agg X) (.agg Y)).run P w = .ok () w := run_eqGuard_agg w op t ox oy X Y hgu
              have hin : (Op.equalIn 10000 t (.agg X) (.agg Y)).run P w = .ok r w := by
                rw [run_equalIn_agg w 9999 t X Y (by rw [hfo]; exact hu) hst, hfo]
                refine fks_run (ρ := ρ) (H := H) 9998 fs.toList 0 ks xs ys r htq he ?_ ?_
                · intro k x hk
                  have := lt_of_get hk
                  rw [Nat.zero_add]
                  exact ⟨by simp [show k < X.size by omega], a3 k x hk⟩
                · intro k x hk
                  have := lt_of_get hk
                  rw [Nat.zero_add]
                  exact ⟨by simp [show k < Y.size by omega], b3 k x hk⟩
              cases op <;> simp only [] at h <;> first | (exact h.elim) | skip
              · refine Yield.pure hh (hg _ _ hgd ?_) h (by constructor)
                rw [run_eql_struct, hin]
                rfl
              · refine Yield.pure hh (hg _ _ hgd ?_) h (by constructor)
                rw [run_neq_struct, hin]
                rfl
        · cases htq
  · obtain ⟨ht, h⟩ := h
    unfold ptrK at h
    split at h
    · rename_i r hr
      obtain ⟨h1, h2⟩ := run_ptrCmp ht hr hx hy hh
      obtain ⟨⟨pp, rfl⟩, ⟨qq, rfl⟩⟩ := ptrCmp_ptr hr hx hy
      refine Yield.pure hh (hg _ _ (h2 _ _ _) ?_) h (by constructor)
      simp [binOp, h1]
    · rename_i r hr
      obtain ⟨h1, h2⟩ := run_ptrCmp ht hr hx hy hh
      obtain ⟨⟨pp, rfl⟩, ⟨qq, rfl⟩⟩ := ptrCmp_ptr hr hx hy
      refine Yield.pure hh (hg _ _ (h2 _ _ _) ?_) h (by constructor)
      simp [binOp, h1]
    · exact h.elim

/-! ## a slice held against nil -/
def isNilS : Operand → Bool
  | .const (.slice none 0 0) => true
  | _ => false

/-- What 'x == nil' may give. -/
def nilArr (g : Nat) : Option AObj → Bool × Bool
  | some (.arr g' _ _ (_ :: _)) => (!(Nat.beq g g'), false)
  | _ => (true, false)

def nilOf (H : List AObj) : AV → Option (Bool × Bool)
  | .fz [] => some (true, false)
  | .fz (_ :: _) => some (false, false)
  | .nils => some (true, true)
  | .nilc => some (true, false)
  | .sl id g _ _ => some (nilArr g (hget H id))
  | _ => none

def isSl : Option TypeDesc → Bool
  | some (.slice _) => true
  | _ => false

def kNilS (P : Program) (op : BinOp) (t : TypeId) (H : List AObj) (K : AV → List AObj → Prop) (x : AV) : Prop :=
  isSl (P.underlying t) = true ∧
  match nilOf H x, op with
  | some (a, b), .eql => K (.bool a) H ∧ K (.bool b) H
  | some (a, b), .neq => K (.bool (!a)) H ∧ K (.bool (!b)) H
  | _, _ => False

theorem kNilS_sound {P : Program} {op : BinOp} {t : TypeId} {H : List AObj} {K : AV → List AObj → Prop} {x : AV} {v : Value} {ρ : Nat → Nat} {w : World} (ox oy : Operand)
    (h : kNilS P op t H K x) (hx : Rep ρ H w x v) (hh : HeapOK ρ H w) : Yield P (do eqGuard op t ox oy v (.slice none 0 0); binOp op t v (.slice none 0 0)) ρ H w K := by
  obtain ⟨ht, h⟩ := h
  obtain ⟨e, hu⟩ : ∃ e, P.underlying t = some (.slice e) := by
    unfold isSl at ht
    split at ht
    · exact ⟨_, by assumption⟩
    · cases ht
  have key : ∀ a b, nilOf H x = some (a, b) → ∃ p l c, v = .slice p l c ∧ (p.isNone = a ∨ p.isNone = b) := by
    intro a b hn
    unfold nilOf at hn
    split at hn <;> first | (cases hn; done) | skip
    · cases hn
      cases hx with
      | fz_emp p c => exact ⟨p, 0, c, rfl, by cases p <;> simp⟩
      | fz xs sz p c vals g1 g2 g3 g4 g5 g6 g7 g8 => exact ⟨_, _, _, rfl, .inr rfl⟩
    · cases hn
      cases hx with
      | fz xs sz p c vals g1 g2 g3 g4 g5 g6 g7 g8 => exact ⟨_, _, _, rfl, .inr rfl⟩
    · cases hn
      cases hx with
      | nils => exact ⟨none, 0, 0, rfl, .inl rfl⟩
    · cases hn
      cases hx with
      | nilc p => exact ⟨p, 0, 0, rfl, by cases p <;> simp⟩
    · rename_i id g off len
      have hn' : nilArr g (hget H id) = (a, b) := Option.some.inj hn
      clear hn
      cases hx with
      | sl _ _ _ _ e2 sz2 els2 cap cur g1 g2 g3 g4 g5 g6 g7 =>
        have g1' : hget H id = some (.arr g e2 sz2 els2) := g1
        have : b = false := by
          rw [g1'] at hn'
          cases els2 with
          | nil => exact absurd rfl g2
          | cons y ys => simp only [nilArr, Prod.mk.injEq] at hn'; exact hn'.2.symm
        subst this
        exact ⟨_, _, _, rfl, .inr rfl⟩
      | sl_emp _ _ e2 sz2 p g1 =>
        have g1' : hget H id = some (.arr g e2 sz2 []) := g1
        rw [g1'] at hn'
        simp only [nilArr, Prod.mk.injEq] at hn'
        obtain ⟨rfl, rfl⟩ := hn'
        exact ⟨p, 0, 0, rfl, by cases p <;> simp⟩
      | sl_stale _ _ _ _ p n c hs =>
        have : a = true ∧ b = false := by
          unfold nilArr at hn'
          split at hn'
          · rename_i g' e2 sz2 y ys ho
            simp only [Prod.mk.injEq] at hn'
            refine ⟨?_, hn'.2.symm⟩
            have ho' : H[id]? = some (.arr g' e2 sz2 (y :: ys)) := ho
            rcases hs with ⟨g2, e3, sz3, els3, q1, q2⟩ | q1
            · rw [q1] at ho'; cases ho'
              have : Nat.beq g g' = false := by
                cases hq : Nat.beq g g' with
                | true => have := Nat.eq_of_beq_eq_true hq; omega
                | false => rfl
              rw [this] at hn'
              exact hn'.1.symm
            · rw [q1] at ho'; cases ho'
          · simp only [Prod.mk.injEq] at hn'
            exact ⟨hn'.1.symm, hn'.2.symm⟩
        obtain ⟨rfl, rfl⟩ := this
        exact ⟨p, n, c, rfl, by cases p <;> simp⟩
  split at h
  · rename_i a b hn
    obtain ⟨p, l, c, rfl, hp⟩ := key a b hn
    have hr : (Op.equal t (.slice p l c) (.slice none 0 0)).run P w = .ok p.isNone w := run_equal_slice_nil w t e p l c hu
    have hrun : ((do eqGuard .eql t ox oy (.slice p l c) (.slice none 0 0); binOp .eql t (.slice p l c) (.slice none 0 0)) : Sem Value).run P w = .ok (.bool p.isNone) w := by
      simp [eqGuard, binOp, hr]
    rcases hp with hp | hp <;> rw [hp] at hrun
    · exact Yield.pure hh hrun h.1 (.bool _)
    · exact Yield.pure hh hrun h.2 (.bool _)
  · rename_i a b hn
    obtain ⟨p, l, c, rfl, hp⟩ := key a b hn
    have hr : (Op.equal t (.slice p l c) (.slice none 0 0)).run P w = .ok p.isNone w := run_equal_slice_nil w t e p l c hu
    have hrun : ((do eqGuard .neq t ox oy (.slice p l c) (.slice none 0 0); binOp .neq t (.slice p l c) (.slice none 0 0)) : Sem Value).run P w = .ok (.bool !p.isNone) w := by
      simp [eqGuard, binOp, hr]
    rcases hp with hp | hp <;> rw [hp] at hrun
    · exact Yield.pure hh hrun h.1 (.bool _)
    · exact Yield.pure hh hrun h.2 (.bool _)
  · exact h.elim

end Go.Proofs.Ytamoclnnakdiaaa.Abs
