/-
  Equations by which abstract states are reckoned (for simp, under the name go_sem).
  Conditions: none.
-/
import Derived.Test.YtamoclnnakdiaaaA11
import Derived.IntWalk
namespace Go.Proofs.Ytamoclnnakdiaaa.Abs
open Go Go.RowKit
set_option linter.unusedVariables false
set_option linter.unusedSimpArgs false

@[go_sem] theorem look_zero (x : AV) (l : List AV) : look (x :: l) 0 = x := _root_.id rfl
@[go_sem] theorem look_succ (x : AV) (l : List AV) (n : Nat) : look (x :: l) (n + 1) = look l n := _root_.id rfl
@[go_sem] theorem putT_zero (x v : AV) (l : List AV) : putT (x :: l) 0 v = v :: l := _root_.id rfl
@[go_sem] theorem putT_succ (x v : AV) (l : List AV) (n : Nat) : putT (x :: l) (n + 1) v = x :: putT l n v := _root_.id rfl
@[go_sem] theorem put_some (T : List AV) (d : Nat) (v : AV) : put T (some d) v = putT T d v := _root_.id rfl
@[go_sem] theorem put_none (T : List AV) (v : AV) : put T none v = T := _root_.id rfl
@[go_sem] theorem ev_tmp (T : List AV) (t : Nat) : ev T (.tmp t) = look T t := _root_.id rfl
@[go_sem] theorem ev_func (T : List AV) (f : FuncId) : ev T (.func f) = .fn (.func f) [] [] := _root_.id rfl
@[go_sem] theorem ev_const_int (T : List AV) (k : IntKind) (n : Int) : ev T (.const (.int k n)) = .int k n := _root_.id rfl
@[go_sem] theorem ev_const_bool (T : List AV) (b : Bool) : ev T (.const (.bool b)) = .bool b := _root_.id rfl
@[go_sem] theorem ev_const_str (T : List AV) (l : List UInt8) : ev T (.const (.string ⟨l.toArray⟩)) = .str l := _root_.id rfl
@[go_sem] theorem ev_const_nilp (T : List AV) : ev T (.const (.pointer none)) = .nilp := _root_.id rfl
@[go_sem] theorem ev_const_nils (T : List AV) : ev T (.const (.slice none 0 0)) = .nils := _root_.id rfl
@[go_sem] theorem ev_const_nilf (T : List AV) : ev T (.const .nilFunc) = .nilf := _root_.id rfl
@[go_sem] theorem ev_const_nili (T : List AV) : ev T (.const .nilIface) = .nili := _root_.id rfl
@[go_sem] theorem ev_const_agg (T : List AV) (l : List Value) : ev T (.const (.agg l.toArray)) = if l.all (fun v => v.oneCell') then .agg (l.map cvS) else .junk := by
  simp [ev, cv]
@[go_sem] theorem one_int (k : IntKind) (n : Int) : (Value.int k n).oneCell' = true := _root_.id rfl
@[go_sem] theorem one_bool (b : Bool) : (Value.bool b).oneCell' = true := _root_.id rfl
@[go_sem] theorem one_str (s : ByteArray) : (Value.string s).oneCell' = true := _root_.id rfl
@[go_sem] theorem one_slice (a : Option Addr) (n c : Nat) : (Value.slice a n c).oneCell' = true := _root_.id rfl
@[go_sem] theorem one_ptr (a : Option Addr) : (Value.pointer a).oneCell' = true := _root_.id rfl
@[go_sem] theorem cvS_int (k : IntKind) (n : Int) : cvS (.int k n) = .int k n := _root_.id rfl
@[go_sem] theorem cvS_bool (b : Bool) : cvS (.bool b) = .bool b := _root_.id rfl
@[go_sem] theorem cvS_str (l : List UInt8) : cvS (.string ⟨l.toArray⟩) = .str l := _root_.id rfl
@[go_sem] theorem cvS_nils : cvS (.slice none 0 0) = .nils := _root_.id rfl
@[go_sem] theorem cvS_nilp : cvS (.pointer none) = .nilp := _root_.id rfl

@[go_sem] theorem cells_agg (cs : List AV) : AV.cells (.agg cs) = cs := _root_.id rfl
@[go_sem] theorem cells_bool (b : Bool) : AV.cells (.bool b) = [.bool b] := _root_.id rfl
@[go_sem] theorem cells_int (k : IntKind) (n : Int) : AV.cells (.int k n) = [.int k n] := _root_.id rfl
@[go_sem] theorem cells_str (s : List UInt8) : AV.cells (.str s) = [.str s] := _root_.id rfl
@[go_sem] theorem cells_nilp : AV.cells .nilp = [.nilp] := _root_.id rfl
@[go_sem] theorem cells_ptr (id off : Nat) : AV.cells (.ptr id off) = [.ptr id off] := _root_.id rfl
@[go_sem] theorem cells_eptr (id g i off : Nat) : AV.cells (.eptr id g i off) = [.eptr id g i off] := _root_.id rfl
@[go_sem] theorem cells_fptr (cs : List AV) : AV.cells (.fptr cs) = [.fptr cs] := _root_.id rfl
@[go_sem] theorem cells_nilc : AV.cells .nilc = [.nilc] := _root_.id rfl
@[go_sem] theorem cells_nils : AV.cells .nils = [.nils] := _root_.id rfl
@[go_sem] theorem cells_fz (xs : List AV) : AV.cells (.fz xs) = [.fz xs] := _root_.id rfl
@[go_sem] theorem cells_sl (id g off len : Nat) : AV.cells (.sl id g off len) = [.sl id g off len] := _root_.id rfl
@[go_sem] theorem cells_fn (f : Fn) (a b : List AV) : AV.cells (.fn f a b) = [.fn f a b] := _root_.id rfl
@[go_sem] theorem cells_nilf : AV.cells .nilf = [.nilf] := _root_.id rfl
@[go_sem] theorem cells_iface (t : TypeId) (x : AV) : AV.cells (.iface t x) = [.iface t x] := _root_.id rfl
@[go_sem] theorem cells_nili : AV.cells .nili = [.nili] := _root_.id rfl

@[go_sem] theorem st_bool (b : Bool) : storable (.bool b) = true := _root_.id rfl
@[go_sem] theorem st_int (k : IntKind) (n : Int) : storable (.int k n) = true := _root_.id rfl
@[go_sem] theorem st_str (s : List UInt8) : storable (.str s) = true := _root_.id rfl
@[go_sem] theorem st_nilp : storable .nilp = true := _root_.id rfl
@[go_sem] theorem st_ptr (id off : Nat) : storable (.ptr id off) = true := _root_.id rfl
@[go_sem] theorem st_eptr (id g i off : Nat) : storable (.eptr id g i off) = true := _root_.id rfl
@[go_sem] theorem st_fptr (cs : List AV) : storable (.fptr cs) = true := _root_.id rfl
@[go_sem] theorem st_nilc : storable .nilc = true := _root_.id rfl
@[go_sem] theorem st_nils : storable .nils = true := _root_.id rfl
@[go_sem] theorem st_fz (xs : List AV) : storable (.fz xs) = true := _root_.id rfl
@[go_sem] theorem st_sl (id g off len : Nat) : storable (.sl id g off len) = true := _root_.id rfl
@[go_sem] theorem st_fn (f : Fn) (a b : List AV) : storable (.fn f a b) = true := _root_.id rfl
@[go_sem] theorem st_nilf : storable .nilf = true := _root_.id rfl
@[go_sem] theorem st_iface (t : TypeId) (x : AV) : storable (.iface t x) = true := _root_.id rfl
@[go_sem] theorem st_nili : storable .nili = true := _root_.id rfl
@[go_sem] theorem st_agg (cs : List AV) : storable (.agg cs) = true := _root_.id rfl

attribute [go_sem] hget_app hget_app0 hget_zero hget_succ hset_app hset_app0 hset_zero hset_succ

/-! ## what an operation comes to, as a thing -/
/-- v and the heap H, if c holds; or a call; or nothing that is known. -/
inductive R where
  | ok (c : Prop) (v : AV) (H : List AObj)
  | any (c : Prop) (v u : AV) (H : List AObj)
  | call (f : Gn) (args : List AV)
  | no

def runR (r : R) (K : AV → List AObj → Prop) : Prop :=
  match r with
  | .ok c v H => c ∧ K v H
  | .any c v u H => c ∧ K v H ∧ K u H
  | _ => False

def loadR (c : Option (Bool × Nat)) (cs : List AV) (H : List AObj) : R :=
  match c with
  | some (true, n) => .ok (n ≤ cs.length) (.agg (cs.take n)) H
  | some (false, _) =>
    match cs with
    | c :: _ => .ok True c H
    | [] => .no
  | none => .no
@[go_sem] theorem loadR_agg (n : Nat) (cs : List AV) (H : List AObj) : loadR (some (true, n)) cs H = .ok (n ≤ cs.length) (.agg (cs.take n)) H := _root_.id rfl
@[go_sem] theorem loadR_one (n : Nat) (c : AV) (cs : List AV) (H : List AObj) : loadR (some (false, n)) (c :: cs) H = .ok True c H := _root_.id rfl
def loadRo (c : Option (Bool × Nat)) (off : Nat) (o : Option AObj) (H : List AObj) : R :=
  match o with
  | some (.var cs) => loadR c (cs.drop off) H
  | _ => .no
@[go_sem] theorem loadRo_var (c : Option (Bool × Nat)) (off : Nat) (cs : List AV) (H : List AObj) : loadRo c off (some (.var cs)) H = loadR c (cs.drop off) H := _root_.id rfl
/-- A condition more. -/
def andR (c : Prop) (r : R) : R :=
  match r with
  | .ok c' v H => .ok (c ∧ c') v H
  | .any c' v u H => .any (c ∧ c') v u H
  | r => r
@[go_sem] theorem andR_ok (c c' : Prop) (v : AV) (H : List AObj) : andR c (.ok c' v H) = .ok (c ∧ c') v H := _root_.id rfl
def loadRe (c : Option (Bool × Nat)) (g i off : Nat) (o : Option AObj) (H : List AObj) : R :=
  match o with
  | some (.arr g' e sz els) => andR (g = g' ∧ i < els.length) (loadR c ((look els i).cells.drop off) H)
  | _ => .no
@[go_sem] theorem loadRe_arr (c : Option (Bool × Nat)) (g i off g' : Nat) (e : TypeId) (sz : Nat) (els : List AV) (H : List AObj) : loadRe c g i off (some (.arr g' e sz els)) H = andR (g = g' ∧ i < els.length) (loadR c ((look els i).cells.drop off) H) := _root_.id rfl
def rLoad (c : Option (Bool × Nat)) (H : List AObj) (x : AV) : R :=
  match x with
  | .ptr id off => loadRo c off (hget H id) H
  | .eptr id g i off => loadRe c g i off (hget H id) H
  | .fptr cs => loadR c cs H
  | _ => .no
@[go_sem] theorem rLoad_ptr (c : Option (Bool × Nat)) (H : List AObj) (id off : Nat) : rLoad c H (.ptr id off) = loadRo c off (hget H id) H := _root_.id rfl
@[go_sem] theorem rLoad_eptr (c : Option (Bool × Nat)) (H : List AObj) (id g i off : Nat) : rLoad c H (.eptr id g i off) = loadRe c g i off (hget H id) H := _root_.id rfl
@[go_sem] theorem rLoad_fptr (c : Option (Bool × Nat)) (H : List AObj) (cs : List AV) : rLoad c H (.fptr cs) = loadR c cs H := _root_.id rfl
theorem runR_loadR (P : Program) (t : TypeId) (cs : List AV) (H : List AObj) (K : AV → List AObj → Prop) (h : runR (loadR (tc P t) cs H) K) : loadA P t cs (fun v => K v H) := by
  unfold loadA
  generalize tc P t = c at h ⊢
  match c, h with
  | some (true, n), h => exact h
  | some (false, _), h =>
    match cs, h with
    | c :: _, h => exact h.2
    | [], h => exact h.elim
  | none, h => exact h.elim
theorem runR_andR {c : Prop} {r : R} {K : AV → List AObj → Prop} (h : runR (andR c r) K) : c ∧ runR r K := by
  cases r with
  | ok c' v H => exact ⟨h.1.1, h.1.2, h.2⟩
  | any c' v u H => exact ⟨h.1.1, h.1.2, h.2⟩
  | call f args => exact h.elim
  | no => exact h.elim
theorem runR_load (P : Program) (t : TypeId) (H : List AObj) (K : AV → List AObj → Prop) (x : AV) (h : runR (rLoad (tc P t) H x) K) : kLoad P t H K x := by
  cases x <;> simp only [rLoad] at h <;> try (exact h.elim)
  case ptr id off =>
    simp only [kLoad]
    unfold loadRo at h
    split at h
    · rename_i cs hc; rw [hc]; exact runR_loadR P t _ H K h
    · exact h.elim
  case eptr id g i off =>
    simp only [kLoad]
    unfold loadRe at h
    split at h
    · rename_i g' e sz els hc
      rw [hc]
      obtain ⟨⟨h1, h2⟩, h3⟩ := runR_andR h
      exact ⟨h1, h2, runR_loadR P t _ H K h3⟩
    · exact h.elim
  case fptr cs => exact runR_loadR P t _ H K h

def rAlloc (z : Option AV) (H : List AObj) : R :=
  match z with
  | some z => .ok (storable z = true) (.ptr H.length 0) (H ++ [.var z.cells])
  | none => .no
@[go_sem] theorem rAlloc_some (z : AV) (H : List AObj) : rAlloc (some z) H = .ok (storable z = true) (.ptr H.length 0) (H ++ [.var z.cells]) := _root_.id rfl

def storeRo (n : Option Nat) (H : List AObj) (x : AV) (id off : Nat) (o : Option AObj) : R :=
  match o with
  | some (.var cs) => .ok (storable x = true ∧ n = some x.cells.length ∧ off + x.cells.length ≤ cs.length) .junk (hset H id (.var (spl cs off x.cells)))
  | _ => .no
@[go_sem] theorem storeRo_var (n : Option Nat) (H : List AObj) (x : AV) (id off : Nat) (cs : List AV) :
    storeRo n H x id off (some (.var cs)) = .ok (storable x = true ∧ n = some x.cells.length ∧ off + x.cells.length ≤ cs.length) .junk (hset H id (.var (spl cs off x.cells))) := _root_.id rfl
def storeRe (n : Option Nat) (H : List AObj) (x : AV) (id g i off : Nat) (o : Option AObj) : R :=
  match o with
  | some (.arr g' e sz els) => .ok (g = g' ∧ i < els.length ∧ storable x = true ∧ n = some x.cells.length ∧ off + x.cells.length ≤ (look els i).cells.length ∧
        (reagg (look els i) (spl (look els i).cells off x.cells)).cells = spl (look els i).cells off x.cells) .junk
        (hset H id (.arr g e sz (els.set i (reagg (look els i) (spl (look els i).cells off x.cells)))))
  | _ => .no
@[go_sem] theorem storeRe_arr (n : Option Nat) (H : List AObj) (x : AV) (id g i off : Nat) (g' : Nat) (e : TypeId) (sz : Nat) (els : List AV) :
    storeRe n H x id g i off (some (.arr g' e sz els)) = .ok (g = g' ∧ i < els.length ∧ storable x = true ∧ n = some x.cells.length ∧ off + x.cells.length ≤ (look els i).cells.length ∧
        (reagg (look els i) (spl (look els i).cells off x.cells)).cells = spl (look els i).cells off x.cells) .junk
        (hset H id (.arr g e sz (els.set i (reagg (look els i) (spl (look els i).cells off x.cells))))) := _root_.id rfl
def rStore (n : Option Nat) (H : List AObj) (x p : AV) : R :=
  match p with
  | .ptr id off => storeRo n H x id off (hget H id)
  | .eptr id g i off => storeRe n H x id g i off (hget H id)
  | _ => .no
@[go_sem] theorem rStore_ptr (n : Option Nat) (H : List AObj) (x : AV) (id off : Nat) : rStore n H x (.ptr id off) = storeRo n H x id off (hget H id) := _root_.id rfl
@[go_sem] theorem rStore_eptr (n : Option Nat) (H : List AObj) (x : AV) (id g i off : Nat) : rStore n H x (.eptr id g i off) = storeRe n H x id g i off (hget H id) := _root_.id rfl
@[go_sem] theorem reagg_agg (cs ds : List AV) : reagg (.agg cs) ds = .agg ds := _root_.id rfl
@[go_sem] theorem spl_def (l : List AV) (off : Nat) (new : List AV) : spl l off new = l.take off ++ new ++ l.drop (off + new.length) := _root_.id rfl
theorem runR_store (P : Program) (t : TypeId) (H : List AObj) (K : AV → List AObj → Prop) (x p : AV) (h : runR (rStore ((tc P t).map (·.2)) H x p) K) : kStore P t H x (fun H' => K .junk H') p := by
  cases p <;> simp only [rStore] at h <;> try (exact h.elim)
  case ptr id off =>
    simp only [kStore]
    unfold storeRo at h
    split at h
    · rename_i cs hc; rw [hc]; exact ⟨h.1.1, h.1.2.1, h.1.2.2, h.2⟩
    · exact h.elim
  case eptr id g i off =>
    simp only [kStore]
    unfold storeRe at h
    split at h
    · rename_i g' e sz els hc
      rw [hc]
      obtain ⟨⟨h1, h2, h3, h4, h5, h6⟩, h7⟩ := h
      exact ⟨h1, h2, h3, h4, h5, h6, h7⟩
    · exact h.elim

def rFieldAddr (c : Option (Nat × Bool × Nat)) (H : List AObj) (x : AV) : R :=
  match c, x with
  | some (o, _, _), .ptr id off => .ok True (.ptr id (off + o)) H
  | some (o, _, _), .eptr id g i off => .ok True (.eptr id g i (off + o)) H
  | some (o, _, _), .fptr cs => .ok True (.fptr (cs.drop o)) H
  | _, _ => .no
@[go_sem] theorem rFieldAddr_ptr (o : Nat) (b : Bool) (n id off : Nat) (H : List AObj) : rFieldAddr (some (o, b, n)) H (.ptr id off) = .ok True (.ptr id (off + o)) H := _root_.id rfl
@[go_sem] theorem rFieldAddr_eptr (o : Nat) (b : Bool) (n id g i off : Nat) (H : List AObj) : rFieldAddr (some (o, b, n)) H (.eptr id g i off) = .ok True (.eptr id g i (off + o)) H := _root_.id rfl
@[go_sem] theorem rFieldAddr_fptr (o : Nat) (b : Bool) (n : Nat) (cs : List AV) (H : List AObj) : rFieldAddr (some (o, b, n)) H (.fptr cs) = .ok True (.fptr (cs.drop o)) H := _root_.id rfl
theorem runR_fieldAddr (P : Program) (s : TypeId) (f : Nat) (H : List AObj) (K : AV → List AObj → Prop) (x : AV) (h : runR (rFieldAddr (tf P s f) H x) K) : kFieldAddr P s f H K x := by
  unfold rFieldAddr at h
  unfold kFieldAddr
  split at h <;> rename_i hc <;> first | (rw [hc]; exact h.2) | exact h.elim
def rField (c : Option (Nat × Bool × Nat)) (H : List AObj) (x : AV) : R :=
  match c, x with
  | some (o, true, n), .agg cs => .ok (o + n ≤ cs.length) (.agg ((cs.drop o).take n)) H
  | some (o, false, _), .agg cs => .ok (o < cs.length) (look cs o) H
  | _, _ => .no
@[go_sem] theorem rField_agg (o n : Nat) (cs : List AV) (H : List AObj) : rField (some (o, true, n)) H (.agg cs) = .ok (o + n ≤ cs.length) (.agg ((cs.drop o).take n)) H := _root_.id rfl
@[go_sem] theorem rField_one (o n : Nat) (cs : List AV) (H : List AObj) : rField (some (o, false, n)) H (.agg cs) = .ok (o < cs.length) (look cs o) H := _root_.id rfl
theorem runR_field (P : Program) (s : TypeId) (f : Nat) (H : List AObj) (K : AV → List AObj → Prop) (x : AV) (h : runR (rField (tf P s f) H x) K) : kField P s f H K x := by
  unfold rField at h
  unfold kField
  split at h <;> rename_i hc <;> first | (rw [hc]; exact h) | exact h.elim

def idxRe (o : Option AObj) (sz : Nat) (H : List AObj) (id g off len : Nat) (n : Int) : R :=
  match o with
  | some (.arr g' _ sz' els) => .ok (g = g' ∧ 0 ≤ n ∧ n < len ∧ sz' = sz) (.eptr id g (off + n.toNat) 0) H
  | _ => .no
@[go_sem] theorem idxRe_arr (g' : Nat) (e : TypeId) (sz' : Nat) (els : List AV) (sz : Nat) (H : List AObj) (id g off len : Nat) (n : Int) :
    idxRe (some (.arr g' e sz' els)) sz H id g off len n = .ok (g = g' ∧ 0 ≤ n ∧ n < len ∧ sz' = sz) (.eptr id g (off + n.toNat) 0) H := _root_.id rfl
def idxRf (c : Option (TypeId × Nat)) (xs : List AV) (n : Int) (H : List AObj) : R :=
  match c with
  | some (_, sz) => .ok (0 ≤ n ∧ n < xs.length ∧ (look xs n.toNat).cells.length = sz) (.fptr (look xs n.toNat).cells) H
  | none => .no
def idxRs (c : Option (TypeId × Nat)) (id g off len : Nat) (n : Int) (H : List AObj) : R :=
  match c with
  | some (_, sz) => idxRe (hget H id) sz H id g off len n
  | none => .no
def idxRp (c : Option (Nat × Bool × Nat)) (id off : Nat) (n : Int) (H : List AObj) : R :=
  match c with
  | some (len, _, sz) => .ok (0 ≤ n ∧ n < len) (.ptr id (off + n.toNat * sz)) H
  | none => .no
def rIndexAddr (c : Option (TypeId × Nat)) (a : Option (Nat × Bool × Nat)) (H : List AObj) (x i : AV) : R :=
  match x, i with
  | .fz xs, .int _ n => idxRf c xs n H
  | .sl id g off len, .int _ n => idxRs c id g off len n H
  | .ptr id off, .int _ n => idxRp a id off n H
  | _, _ => .no
section
variable (e : TypeId) (sz : Nat) (c : Option (TypeId × Nat)) (a : Option (Nat × Bool × Nat)) (k : IntKind) (n : Int) (H : List AObj)
@[go_sem] theorem idxRf_some (xs : List AV) : idxRf (some (e, sz)) xs n H = .ok (0 ≤ n ∧ n < xs.length ∧ (look xs n.toNat).cells.length = sz) (.fptr (look xs n.toNat).cells) H := _root_.id rfl
@[go_sem] theorem idxRs_some (id g off len : Nat) : idxRs (some (e, sz)) id g off len n H = idxRe (hget H id) sz H id g off len n := _root_.id rfl
@[go_sem] theorem idxRp_some (l : Nat) (b : Bool) (id off : Nat) : idxRp (some (l, b, sz)) id off n H = .ok (0 ≤ n ∧ n < l) (.ptr id (off + n.toNat * sz)) H := _root_.id rfl
@[go_sem] theorem rIndexAddr_fz (xs : List AV) : rIndexAddr c a H (.fz xs) (.int k n) = idxRf c xs n H := _root_.id rfl
@[go_sem] theorem rIndexAddr_sl (id g off len : Nat) : rIndexAddr c a H (.sl id g off len) (.int k n) = idxRs c id g off len n H := _root_.id rfl
@[go_sem] theorem rIndexAddr_ptr (id off : Nat) : rIndexAddr c a H (.ptr id off) (.int k n) = idxRp a id off n H := _root_.id rfl
end
theorem runR_indexAddr (P : Program) (t : TypeId) (H : List AObj) (K : AV → List AObj → Prop) (x i : AV) (h : runR (rIndexAddr (te P t) (ta P t) H x i) K) : kIndexAddr P t H K x i := by
  unfold rIndexAddr at h
  split at h
  · unfold idxRf at h
    unfold kIndexAddr
    split at h <;> rename_i hc
    · rw [hc]; exact ⟨h.1.1, h.1.2.1, h.1.2.2, h.2⟩
    · exact h.elim
  · unfold idxRs at h
    unfold kIndexAddr
    split at h <;> rename_i hc
    · rw [hc]
      unfold idxRe at h
      simp only []
      split at h <;> rename_i hd
      · rw [hd]; exact ⟨h.1.1, h.1.2.1, h.1.2.2.1, h.1.2.2.2, h.2⟩
      · exact h.elim
    · exact h.elim
  · unfold idxRp at h
    unfold kIndexAddr
    split at h <;> rename_i hc
    · rw [hc]
      cases te P t <;> exact ⟨h.1.1, h.1.2, h.2⟩
    · exact h.elim
  · exact h.elim
def idxRt (c : Option TypeDesc) (s : List UInt8) (n : Int) (H : List AObj) : R :=
  match c with
  | some .string => .ok (0 ≤ n ∧ n < s.length) (.int .u8 ((bAt s n.toNat).toNat : Int)) H
  | _ => .no
def idxRa (c : Option (Nat × Bool × Nat)) (cs : List AV) (n : Int) (H : List AObj) : R :=
  match c with
  | some (l, true, sz) => .ok (0 ≤ n ∧ n < l ∧ n.toNat * sz + sz ≤ cs.length) (.agg ((cs.drop (n.toNat * sz)).take sz)) H
  | some (l, false, sz) => .ok (0 ≤ n ∧ n < l ∧ n.toNat * sz < cs.length) (look cs (n.toNat * sz)) H
  | none => .no
def rIndex (c : Option TypeDesc) (a : Option (Nat × Bool × Nat)) (H : List AObj) (x i : AV) : R :=
  match x, i with
  | .str s, .int _ n => idxRt c s n H
  | .agg cs, .int _ n => idxRa a cs n H
  | _, _ => .no
section
variable (c : Option TypeDesc) (a : Option (Nat × Bool × Nat)) (k : IntKind) (n : Int) (H : List AObj)
@[go_sem] theorem idxRt_str (s : List UInt8) : idxRt (some .string) s n H = .ok (0 ≤ n ∧ n < s.length) (.int .u8 ((bAt s n.toNat).toNat : Int)) H := _root_.id rfl
@[go_sem] theorem idxRa_agg (l sz : Nat) (cs : List AV) : idxRa (some (l, true, sz)) cs n H = .ok (0 ≤ n ∧ n < l ∧ n.toNat * sz + sz ≤ cs.length) (.agg ((cs.drop (n.toNat * sz)).take sz)) H := _root_.id rfl
@[go_sem] theorem idxRa_one (l sz : Nat) (cs : List AV) : idxRa (some (l, false, sz)) cs n H = .ok (0 ≤ n ∧ n < l ∧ n.toNat * sz < cs.length) (look cs (n.toNat * sz)) H := _root_.id rfl
@[go_sem] theorem rIndex_str (s : List UInt8) : rIndex c a H (.str s) (.int k n) = idxRt c s n H := _root_.id rfl
@[go_sem] theorem rIndex_agg (cs : List AV) : rIndex c a H (.agg cs) (.int k n) = idxRa a cs n H := _root_.id rfl
end
theorem runR_index (P : Program) (t : TypeId) (H : List AObj) (K : AV → List AObj → Prop) (x i : AV) (h : runR (rIndex (P.underlying t) (ta P t) H x i) K) : kIndex P t H K x i := by
  unfold rIndex at h
  split at h
  · unfold idxRt at h
    unfold kIndex
    split at h <;> rename_i hc
    · rw [hc]; exact ⟨h.1.1, h.1.2, h.2⟩
    · exact h.elim
  · unfold idxRa at h
    unfold kIndex
    split at h <;> rename_i hc
    · rw [hc]
      simp only []
      exact ⟨h.1.1, h.1.2.1, h.1.2.2, h.2⟩
    · rw [hc]
      simp only []
      exact ⟨h.1.1, h.1.2.1, h.1.2.2, h.2⟩
    · exact h.elim
  · exact h.elim
def eqR (r : Option Bool) (neg : Bool) (H : List AObj) : R :=
  match r with
  | some r => .ok True (.bool (if neg then !r else r)) H
  | none => .no
@[go_sem] theorem eqR_eql (r : Bool) (H : List AObj) : eqR (some r) false H = .ok True (.bool r) H := _root_.id rfl
@[go_sem] theorem eqR_neq (r : Bool) (H : List AObj) : eqR (some r) true H = .ok True (.bool (!r)) H := _root_.id rfl
def eqRt (ks : Option (List FK)) (xs ys : List AV) (neg : Bool) (H : List AObj) : R :=
  match ks with
  | some ks => eqR (eqA ks xs ys) neg H
  | none => .no
@[go_sem] theorem eqRt_some (ks : List FK) (xs ys : List AV) (neg : Bool) (H : List AObj) : eqRt (some ks) xs ys neg H = eqR (eqA ks xs ys) neg H := _root_.id rfl
def valR (v : Option AV) (c : Prop) (H : List AObj) : R :=
  match v with
  | some v => .ok c v H
  | none => .no
@[go_sem] theorem valR_some (v : AV) (c : Prop) (H : List AObj) : valR (some v) c H = .ok c v H := _root_.id rfl
def ptrV : AV → AV → Option Bool
  | .nilp, .nilp => some true
  | .ptr _ _, .nilp => some false
  | .eptr _ _ _ _, .nilp => some false
  | .fptr _, .nilp => some false
  | .nilp, .ptr _ _ => some false
  | .ptr i o, .ptr j q => some (decide (i = j ∧ o = q))
  | _, _ => none
def ptrC (H : List AObj) : AV → AV → Prop
  | .ptr i _, .ptr j _ => isVar (hget H i) = true ∧ isVar (hget H j) = true
  | _, _ => True
/-- Pointers, compared. -/
def rPtr (op : BinOp) (c : Prop) (r : Option Bool) (H : List AObj) : R :=
  match r, op with
  | some r, .eql => .ok c (.bool r) H
  | some r, .neq => .ok c (.bool (!r)) H
  | _, _ => .no
@[go_sem] theorem rPtr_eql (c : Prop) (r : Bool) (H : List AObj) : rPtr .eql c (some r) H = .ok c (.bool r) H := _root_.id rfl
@[go_sem] theorem rPtr_neq (c : Prop) (r : Bool) (H : List AObj) : rPtr .neq c (some r) H = .ok c (.bool (!r)) H := _root_.id rfl
@[go_sem] theorem isVar_var (cs : List AV) : isVar (some (.var cs)) = true := _root_.id rfl
theorem runR_ptr {op : BinOp} {tp : Bool} {H : List AObj} {x y : AV} {K : AV → List AObj → Prop} (h : runR (rPtr op (tp = true ∧ ptrC H x y) (ptrV x y) H) K) : tp = true ∧ ptrK op H K (ptrCmp H x y) := by
  have hc : ∀ r : Bool, ptrV x y = some r → ptrC H x y → ptrCmp H x y = some r := by
    intro r h1 h2
    unfold ptrV at h1
    split at h1 <;> try (cases h1; done)
    all_goals cases h1
    all_goals first | rfl | skip
    obtain ⟨g1, g2⟩ := h2
    simp only [ptrCmp, g1, g2, Bool.and_self, if_true]
  cases hv : ptrV x y with
  | none => rw [hv] at h; cases op <;> exact h.elim
  | some r =>
    rw [hv] at h
    cases op <;> first | (exact h.elim; done) | (refine ⟨h.1.1, ?_⟩; rw [hc r hv h.1.2]; exact h.2)
/-- A slice held against nil. -/
def rNilS (c : Option TypeDesc) (op : BinOp) (H : List AObj) (n : Option (Bool × Bool)) : R :=
  match n, op with
  | some (a, b), .eql => .any (isSl c = true) (.bool a) (.bool b) H
  | some (a, b), .neq => .any (isSl c = true) (.bool (!a)) (.bool (!b)) H
  | _, _ => .no
@[go_sem] theorem rNilS_eql (c : Option TypeDesc) (H : List AObj) (a b : Bool) : rNilS c .eql H (some (a, b)) = .any (isSl c = true) (.bool a) (.bool b) H := _root_.id rfl
@[go_sem] theorem rNilS_neq (c : Option TypeDesc) (H : List AObj) (a b : Bool) : rNilS c .neq H (some (a, b)) = .any (isSl c = true) (.bool (!a)) (.bool (!b)) H := _root_.id rfl
@[go_sem] theorem isSl_slice (e : TypeId) : isSl (some (.slice e)) = true := _root_.id rfl
@[go_sem] theorem nilOf_emp (H : List AObj) : nilOf H (.fz []) = some (true, false) := _root_.id rfl
@[go_sem] theorem nilOf_cons (H : List AObj) (x : AV) (xs : List AV) : nilOf H (.fz (x :: xs)) = some (false, false) := _root_.id rfl
@[go_sem] theorem nilOf_nils (H : List AObj) : nilOf H .nils = some (true, true) := _root_.id rfl
@[go_sem] theorem nilOf_nilc (H : List AObj) : nilOf H .nilc = some (true, false) := _root_.id rfl
@[go_sem] theorem nilOf_sl (H : List AObj) (id g off len : Nat) : nilOf H (.sl id g off len) = some (nilArr g (hget H id)) := _root_.id rfl
@[go_sem] theorem nilArr_nil (g g' : Nat) (e : TypeId) (sz : Nat) : nilArr g (some (.arr g' e sz [])) = (true, false) := _root_.id rfl
@[go_sem] theorem nilArr_cons (g : Nat) (e : TypeId) (sz : Nat) (x : AV) (xs : List AV) : nilArr g (some (.arr g e sz (x :: xs))) = (false, false) := by
  simp [nilArr]
@[go_sem] theorem nil_tmp (t : Nat) : isNilS (.tmp t) = false := _root_.id rfl
@[go_sem] theorem nil_int (k : IntKind) (n : Int) : isNilS (.const (.int k n)) = false := _root_.id rfl
@[go_sem] theorem nil_bool (b : Bool) : isNilS (.const (.bool b)) = false := _root_.id rfl
@[go_sem] theorem nil_str (s : ByteArray) : isNilS (.const (.string s)) = false := _root_.id rfl
@[go_sem] theorem nil_ptr (a : Option Addr) : isNilS (.const (.pointer a)) = false := _root_.id rfl
@[go_sem] theorem nil_agg (a : Array Value) : isNilS (.const (.agg a)) = false := _root_.id rfl
@[go_sem] theorem nil_iface : isNilS (.const .nilIface) = false := _root_.id rfl
@[go_sem] theorem nil_nils : isNilS (.const (.slice none 0 0)) = true := _root_.id rfl
theorem runR_nilS (P : Program) (op : BinOp) (t : TypeId) (H : List AObj) (K : AV → List AObj → Prop) (x : AV) (h : runR (rNilS (P.underlying t) op H (nilOf H x)) K) : kNilS P op t H K x := by
  unfold rNilS at h
  unfold kNilS
  split at h
  · rename_i a b hn; rw [hn]; exact h
  · rename_i a b hn; rw [hn]; exact h
  · exact h.elim

def rBin (P : Program) (op : BinOp) (t : TypeId) (H : List AObj) (x y : AV) : R :=
  match x, y with
  | .int k a, .int k' b => valR (binInt op k a b) (k = k') H
  | .str a, .str b =>
    match op with
    | .add => .ok (a.length + b.length ≤ 9223372036854775807) (.str (a ++ b)) H
    | op => valR (binStr op a b) True H
  | .bool a, .bool b =>
    match op with
    | .eql => .ok (P.underlying t = some .bool) (.bool (a == b)) H
    | .neq => .ok (P.underlying t = some .bool) (.bool (!(a == b))) H
    | _ => .no
  | .agg xs, .agg ys =>
    match op with
    | .eql => eqRt (tq P t) xs ys false H
    | .neq => eqRt (tq P t) xs ys true H
    | _ => .no
  | x, y => rPtr op (tptr P t = true ∧ ptrC H x y) (ptrV x y) H
section
variable (P : Program) (t : TypeId) (H : List AObj)
@[go_sem] theorem rBin_int (op : BinOp) (k k' : IntKind) (a b : Int) : rBin P op t H (.int k a) (.int k' b) = valR (binInt op k a b) (k = k') H := _root_.id rfl
@[go_sem] theorem bi_add (k : IntKind) (a b : Int) : binInt .add k a b = some (.int k (k.wrap (a + b))) := _root_.id rfl
@[go_sem] theorem bi_sub (k : IntKind) (a b : Int) : binInt .sub k a b = some (.int k (k.wrap (a - b))) := _root_.id rfl
@[go_sem] theorem bi_mul (k : IntKind) (a b : Int) : binInt .mul k a b = some (.int k (k.wrap (a * b))) := _root_.id rfl
@[go_sem] theorem bi_eql (k : IntKind) (a b : Int) : binInt .eql k a b = some (.bool (a == b)) := _root_.id rfl
@[go_sem] theorem bi_neq (k : IntKind) (a b : Int) : binInt .neq k a b = some (.bool (!(a == b))) := _root_.id rfl
@[go_sem] theorem bi_lss (k : IntKind) (a b : Int) : binInt .lss k a b = some (.bool (decide (a < b))) := _root_.id rfl
@[go_sem] theorem bi_leq (k : IntKind) (a b : Int) : binInt .leq k a b = some (.bool (decide (a ≤ b))) := _root_.id rfl
@[go_sem] theorem bi_gtr (k : IntKind) (a b : Int) : binInt .gtr k a b = some (.bool (decide (b < a))) := _root_.id rfl
@[go_sem] theorem bi_geq (k : IntKind) (a b : Int) : binInt .geq k a b = some (.bool (decide (b ≤ a))) := _root_.id rfl
@[go_sem] theorem rBin_sadd (a b : List UInt8) : rBin P .add t H (.str a) (.str b) = .ok (a.length + b.length ≤ 9223372036854775807) (.str (a ++ b)) H := _root_.id rfl
@[go_sem] theorem rBin_seql (a b : List UInt8) : rBin P .eql t H (.str a) (.str b) = .ok True (.bool (a == b)) H := _root_.id rfl
@[go_sem] theorem rBin_sneq (a b : List UInt8) : rBin P .neq t H (.str a) (.str b) = .ok True (.bool (!(a == b))) H := _root_.id rfl
@[go_sem] theorem rBin_slss (a b : List UInt8) : rBin P .lss t H (.str a) (.str b) = .ok True (.bool (Op.bytesLess a b)) H := _root_.id rfl
@[go_sem] theorem rBin_sleq (a b : List UInt8) : rBin P .leq t H (.str a) (.str b) = .ok True (.bool (Op.bytesLess a b || a == b)) H := _root_.id rfl
@[go_sem] theorem rBin_sgtr (a b : List UInt8) : rBin P .gtr t H (.str a) (.str b) = .ok True (.bool (!(Op.bytesLess a b || a == b))) H := _root_.id rfl
@[go_sem] theorem rBin_sgeq (a b : List UInt8) : rBin P .geq t H (.str a) (.str b) = .ok True (.bool (!(Op.bytesLess a b))) H := _root_.id rfl
@[go_sem] theorem rBin_beql (a b : Bool) : rBin P .eql t H (.bool a) (.bool b) = .ok (P.underlying t = some .bool) (.bool (a == b)) H := _root_.id rfl
@[go_sem] theorem rBin_bneq (a b : Bool) : rBin P .neq t H (.bool a) (.bool b) = .ok (P.underlying t = some .bool) (.bool (!(a == b))) H := _root_.id rfl
@[go_sem] theorem rBin_aeql (xs ys : List AV) : rBin P .eql t H (.agg xs) (.agg ys) = eqRt (tq P t) xs ys false H := _root_.id rfl
@[go_sem] theorem rBin_nn (op : BinOp) : rBin P op t H .nilp .nilp = rPtr op (tptr P t = true ∧ True) (some true) H := _root_.id rfl
@[go_sem] theorem rBin_pn (op : BinOp) (i o : Nat) : rBin P op t H (.ptr i o) .nilp = rPtr op (tptr P t = true ∧ True) (some false) H := _root_.id rfl
@[go_sem] theorem rBin_en (op : BinOp) (i g k o : Nat) : rBin P op t H (.eptr i g k o) .nilp = rPtr op (tptr P t = true ∧ True) (some false) H := _root_.id rfl
@[go_sem] theorem rBin_fn (op : BinOp) (cs : List AV) : rBin P op t H (.fptr cs) .nilp = rPtr op (tptr P t = true ∧ True) (some false) H := _root_.id rfl
@[go_sem] theorem rBin_np (op : BinOp) (i o : Nat) : rBin P op t H .nilp (.ptr i o) = rPtr op (tptr P t = true ∧ True) (some false) H := _root_.id rfl
@[go_sem] theorem rBin_pp (op : BinOp) (i o j q : Nat) : rBin P op t H (.ptr i o) (.ptr j q) = rPtr op (tptr P t = true ∧ (isVar (hget H i) = true ∧ isVar (hget H j) = true)) (some (decide (i = j ∧ o = q))) H := _root_.id rfl
@[go_sem] theorem rBin_aneq (xs ys : List AV) : rBin P .neq t H (.agg xs) (.agg ys) = eqRt (tq P t) xs ys true H := _root_.id rfl
end
@[go_sem] theorem eqA_nil : eqA [] [] [] = some true := _root_.id rfl
@[go_sem] theorem eqA_int (ks : List FK) (k k' : IntKind) (a b : Int) (xs ys : List AV) : eqA (.int :: ks) (.int k a :: xs) (.int k' b :: ys) = if k = k' then (eqA ks xs ys).map (fun r => a == b && r) else none := _root_.id rfl
@[go_sem] theorem eqA_str (ks : List FK) (a b : List UInt8) (xs ys : List AV) : eqA (.str :: ks) (.str a :: xs) (.str b :: ys) = (eqA ks xs ys).map (fun r => a == b && r) := _root_.id rfl
@[go_sem] theorem eqA_bool (ks : List FK) (a b : Bool) (xs ys : List AV) : eqA (.bool :: ks) (.bool a :: xs) (.bool b :: ys) = (eqA ks xs ys).map (fun r => a == b && r) := _root_.id rfl
attribute [go_sem] Option.map_some Bool.and_true
theorem runR_bin (P : Program) (op : BinOp) (t : TypeId) (H : List AObj) (K : AV → List AObj → Prop) (x y : AV) (h : runR (rBin P op t H x y) K) : kBin P op t H K x y := by
  unfold rBin at h
  unfold kBin
  split at h
  · rename_i k a k' b
    simp only []
    cases hb : binInt op k a b with
    | none => rw [hb] at h; exact h.elim
    | some v => rw [hb] at h; exact h
  · rename_i a b
    simp only []
    split at h
    · exact h
    · rename_i hne
      cases hb : binStr op a b with
      | none => rw [hb] at h; exact h.elim
      | some v =>
        rw [hb] at h
        split
        · exact absurd rfl hne
        · exact h.2
  · simp only []
    split at h
    · exact h
    · exact h
    · exact h.elim
  · rename_i xs ys
    simp only []
    unfold eqRt at h
    cases hq : tq P t with
    | none => rw [hq] at h; cases op <;> exact h.elim
    | some ks =>
      rw [hq] at h
      simp only [] at h ⊢
      cases he : eqA ks xs ys with
      | none => rw [he] at h; cases op <;> exact h.elim
      | some r =>
        rw [he] at h
        cases op <;> first | exact h.2 | exact h.elim
  · rename_i x' y' n1 n2 n3 n4
    have := runR_ptr h
    split
    · exact absurd rfl (n1 _ _ _ _ rfl)
    · exact absurd rfl (n2 _ _ rfl)
    · exact absurd rfl (n3 _ _ rfl)
    · exact absurd rfl (n4 _ _ rfl)
    · exact this

def rUn (op : UnOp) (H : List AObj) (x : AV) : R :=
  match op, x with
  | .not, .bool b => .ok True (.bool (!b)) H
  | .neg, .int k n => .ok True (.int k (k.wrap (0 - n))) H
  | _, _ => .no
@[go_sem] theorem rUn_not (b : Bool) (H : List AObj) : rUn .not H (.bool b) = .ok True (.bool (!b)) H := _root_.id rfl
@[go_sem] theorem rUn_neg (k : IntKind) (n : Int) (H : List AObj) : rUn .neg H (.int k n) = .ok True (.int k (k.wrap (0 - n))) H := _root_.id rfl
theorem runR_un (op : UnOp) (H : List AObj) (K : AV → List AObj → Prop) (x : AV) (h : runR (rUn op H x) K) : kUn op H K x := by
  unfold rUn at h
  unfold kUn
  split at h <;> first | exact h.2 | exact h.elim
def rConv (a b : Option TypeDesc) (H : List AObj) (x : AV) : R :=
  match a, b, x with
  | some _, some (.int k), .int _ n => .ok True (.int k (k.wrap n)) H
  | some _, some .string, .str s => .ok True (.str s) H
  | _, _, _ => .no
@[go_sem] theorem rConv_int (a : TypeDesc) (k k' : IntKind) (n : Int) (H : List AObj) : rConv (some a) (some (.int k)) H (.int k' n) = .ok True (.int k (k.wrap n)) H := _root_.id rfl
@[go_sem] theorem rConv_str (a : TypeDesc) (s : List UInt8) (H : List AObj) : rConv (some a) (some .string) H (.str s) = .ok True (.str s) H := _root_.id rfl
theorem runR_conv (P : Program) (s t : TypeId) (H : List AObj) (K : AV → List AObj → Prop) (x : AV) (h : runR (rConv (P.underlying s) (P.underlying t) H x) K) : kConv P s t H K x := by
  unfold rConv at h
  unfold kConv
  split at h <;> first | (rename_i h1 h2; rw [h1, h2]; exact h.2) | exact h.elim
def rExtract (i : Nat) (H : List AObj) (x : AV) : R :=
  match x with
  | .tuple vs => .ok (i < vs.length) (look vs i) H
  | _ => .no
@[go_sem] theorem rExtract_tuple (i : Nat) (H : List AObj) (vs : List AV) : rExtract i H (.tuple vs) = .ok (i < vs.length) (look vs i) H := _root_.id rfl
theorem runR_extract (i : Nat) (H : List AObj) (K : AV → List AObj → Prop) (x : AV) (h : runR (rExtract i H x) K) : kExtract i H K x := by
  unfold rExtract at h
  unfold kExtract
  split at h <;> first | exact h | exact h.elim
def rBuild (c : Option (List AV × List (Nat × Nat))) (H : List AObj) (parts : List (Nat × AV)) : R :=
  match c with
  | some (zs, places) => valR ((fillA places zs parts).map .agg) True H
  | none => .no
@[go_sem] theorem rBuild_some (zs : List AV) (places : List (Nat × Nat)) (H : List AObj) (parts : List (Nat × AV)) : rBuild (some (zs, places)) H parts = valR ((fillA places zs parts).map .agg) True H := _root_.id rfl
@[go_sem] theorem fillA_nil (places : List (Nat × Nat)) (cells : List AV) : fillA places cells [] = some cells := _root_.id rfl
def placeO (c : Option (Nat × Nat)) (places : List (Nat × Nat)) (cells : List AV) (x : AV) (rest : List (Nat × AV)) : Option (List AV) :=
  match c with
  | some (off, size) => if storable x = true ∧ x.cells.length = size ∧ off + size ≤ cells.length then fillA places (spl cells off x.cells) rest else none
  | none => none
@[go_sem] theorem fillA_cons (places : List (Nat × Nat)) (cells : List AV) (i : Nat) (x : AV) (rest : List (Nat × AV)) : fillA places cells ((i, x) :: rest) = placeO (places[i]?) places cells x rest := _root_.id rfl
@[go_sem] theorem placeO_some (off size : Nat) (places : List (Nat × Nat)) (cells : List AV) (x : AV) (rest : List (Nat × AV)) :
    placeO (some (off, size)) places cells x rest = if storable x = true ∧ x.cells.length = size ∧ off + size ≤ cells.length then fillA places (spl cells off x.cells) rest else none := _root_.id rfl
theorem runR_build (P : Program) (t : TypeId) (H : List AObj) (K : AV → List AObj → Prop) (parts : List (Nat × AV)) (h : runR (rBuild (tb P t) H parts) K) : kBuild P t H K parts := by
  unfold rBuild at h
  unfold kBuild
  cases hb : tb P t with
  | none => rw [hb] at h; exact h.elim
  | some zp =>
    obtain ⟨zs, places⟩ := zp
    rw [hb] at h
    simp only [] at h ⊢
    cases hf : fillA places zs parts with
    | none => rw [hf] at h; exact h.elim
    | some cells => rw [hf] at h; exact h.2
def rBsl (c : Option (TypeId × Nat)) (z : TypeId → Option AV) (n : Nat) (H : List AObj) (parts : List (Nat × AV)) : R :=
  match c with
  | some (e, sz) =>
    match z e with
    | some z => valR ((fillE sz (List.replicate n z) parts).map mkFz) (z.cells.length = sz ∧ storable z = true ∧ n * sz ≤ 16777216 ∧ 0 < sz) H
    | none => .no
  | none => .no
def rBslz (z : Option AV) (sz n : Nat) (H : List AObj) (parts : List (Nat × AV)) : R :=
  match z with
  | some z => valR ((fillE sz (List.replicate n z) parts).map mkFz) (z.cells.length = sz ∧ storable z = true ∧ n * sz ≤ 16777216 ∧ 0 < sz) H
  | none => .no
@[go_sem] theorem rBsl_some (e : TypeId) (sz : Nat) (z : TypeId → Option AV) (n : Nat) (H : List AObj) (parts : List (Nat × AV)) : rBsl (some (e, sz)) z n H parts = rBslz (z e) sz n H parts := _root_.id rfl
@[go_sem] theorem rBslz_some (z : AV) (sz n : Nat) (H : List AObj) (parts : List (Nat × AV)) : rBslz (some z) sz n H parts = valR ((fillE sz (List.replicate n z) parts).map mkFz) (z.cells.length = sz ∧ storable z = true ∧ n * sz ≤ 16777216 ∧ 0 < sz) H := _root_.id rfl
@[go_sem] theorem mkFz_nil : mkFz [] = .nilc := _root_.id rfl
@[go_sem] theorem mkFz_cons (x : AV) (xs : List AV) : mkFz (x :: xs) = .fz (x :: xs) := _root_.id rfl
@[go_sem] theorem fillE_nil (sz : Nat) (els : List AV) : fillE sz els [] = some els := _root_.id rfl
@[go_sem] theorem fillE_cons (sz : Nat) (els : List AV) (i : Nat) (x : AV) (rest : List (Nat × AV)) : fillE sz els ((i, x) :: rest) = if i < els.length ∧ storable x = true ∧ x.cells.length = sz then fillE sz (els.set i x) rest else none := _root_.id rfl
theorem runR_bsl (P : Program) (t : TypeId) (n : Nat) (H : List AObj) (K : AV → List AObj → Prop) (parts : List (Nat × AV)) (h : runR (rBsl (te P t) (zeroV P) n H parts) K) : kBuildSlice P t n H K parts := by
  unfold rBsl at h
  unfold kBuildSlice
  cases hb : te P t with
  | none => rw [hb] at h; exact h.elim
  | some es =>
    obtain ⟨e, sz⟩ := es
    rw [hb] at h
    simp only [] at h ⊢
    cases hz : zeroV P e with
    | none => rw [hz] at h; exact h.elim
    | some z =>
      rw [hz] at h
      simp only [] at h ⊢
      cases hf : fillE sz (List.replicate n z) parts with
      | none => rw [hf] at h; exact h.elim
      | some els =>
        rw [hf] at h
        obtain ⟨⟨h1, h2, h3, h4⟩, h5⟩ := h
        exact ⟨h1, h2, h3, h4, h5⟩
def genIs (o : Option AObj) (g : Nat) : Prop :=
  match o with
  | some (.arr g' _ _ _) => g = g'
  | _ => False
@[go_sem] theorem genIs_arr (g g' : Nat) (e : TypeId) (sz : Nat) (els : List AV) : genIs (some (.arr g' e sz els)) g = (g = g') := _root_.id rfl
def rLen (c : Option TypeDesc) (H : List AObj) (x : AV) : R :=
  match c, x with
  | some .string, .str s => .ok True (.int .i64 (s.length : Int)) H
  | some (.slice _), .sl id g off len => .ok (genIs (hget H id) g) (.int .i64 (len : Int)) H
  | some (.slice _), .fz xs => .ok True (.int .i64 (xs.length : Int)) H
  | some (.slice _), .nils => .ok True (.int .i64 0) H
  | some (.slice _), .nilc => .ok True (.int .i64 0) H
  | _, _ => .no
@[go_sem] theorem rLen_str (s : List UInt8) (H : List AObj) : rLen (some .string) H (.str s) = .ok True (.int .i64 (s.length : Int)) H := _root_.id rfl
@[go_sem] theorem rLen_sl (e : TypeId) (id g off len : Nat) (H : List AObj) : rLen (some (.slice e)) H (.sl id g off len) = .ok (genIs (hget H id) g) (.int .i64 (len : Int)) H := _root_.id rfl
@[go_sem] theorem rLen_fz (e : TypeId) (xs : List AV) (H : List AObj) : rLen (some (.slice e)) H (.fz xs) = .ok True (.int .i64 (xs.length : Int)) H := _root_.id rfl
@[go_sem] theorem rLen_nilc (e : TypeId) (H : List AObj) : rLen (some (.slice e)) H .nilc = .ok True (.int .i64 0) H := _root_.id rfl
@[go_sem] theorem rLen_nils (e : TypeId) (H : List AObj) : rLen (some (.slice e)) H .nils = .ok True (.int .i64 0) H := _root_.id rfl
theorem runR_len (P : Program) (t : TypeId) (H : List AObj) (K : AV → List AObj → Prop) (x : AV) (h : runR (rLen (P.underlying t) H x) K) : kLen P t H K x := by
  unfold rLen at h
  unfold kLen
  split at h <;> rename_i hc
  · rw [hc]; exact h.2
  · rw [hc]; exact h
  · rw [hc]; exact h.2
  · rw [hc]; exact h.2
  · rw [hc]; exact h.2
  · exact h.elim
def appRo (o : Option AObj) (e : TypeId) (sz by_ : Nat) (ys : List AV) (H : List AObj) (id g off len : Nat) : R :=
  match o with
  | some (.arr g' e' sz' els) => .ok ((∀ z, z ∈ ys → z.cells.length = sz) ∧ g = g' ∧ e' = e ∧ sz' = sz ∧ off = 0 ∧ len = els.length ∧ (len + ys.length) * by_ ≤ 140737488355328)
      (.sl id (g + 1) 0 (len + ys.length)) (hset H id (.arr (g + 1) e sz (els ++ ys)))
  | _ => .no
@[go_sem] theorem appRo_arr (g' : Nat) (e' : TypeId) (sz' : Nat) (els : List AV) (e : TypeId) (sz by_ : Nat) (ys : List AV) (H : List AObj) (id g off len : Nat) :
    appRo (some (.arr g' e' sz' els)) e sz by_ ys H id g off len = .ok ((∀ z, z ∈ ys → z.cells.length = sz) ∧ g = g' ∧ e' = e ∧ sz' = sz ∧ off = 0 ∧ len = els.length ∧ (len + ys.length) * by_ ≤ 140737488355328)
      (.sl id (g + 1) 0 (len + ys.length)) (hset H id (.arr (g + 1) e sz (els ++ ys))) := _root_.id rfl
def rApp (c : Option (TypeId × Nat × Nat)) (ys : Option (List AV)) (H : List AObj) (x : AV) : R :=
  match c, ys, x with
  | some (e, sz, by_), some ys, .nils => .ok ((∀ z, z ∈ ys → z.cells.length = sz) ∧ ys.length * by_ ≤ 140737488355328) (.sl H.length 0 0 ys.length) (H ++ [.arr 0 e sz ys])
  | some (e, sz, by_), some ys, .nilc => .ok ((∀ z, z ∈ ys → z.cells.length = sz) ∧ ys.length * by_ ≤ 140737488355328) (.sl H.length 0 0 ys.length) (H ++ [.arr 0 e sz ys])
  | some (e, sz, by_), some ys, .sl id g off len => appRo (hget H id) e sz by_ ys H id g off len
  | _, _, _ => .no
@[go_sem] theorem rApp_nilc (e : TypeId) (sz by_ : Nat) (ys : List AV) (H : List AObj) : rApp (some (e, sz, by_)) (some ys) H .nilc = .ok ((∀ z, z ∈ ys → z.cells.length = sz) ∧ ys.length * by_ ≤ 140737488355328) (.sl H.length 0 0 ys.length) (H ++ [.arr 0 e sz ys]) := _root_.id rfl
@[go_sem] theorem rApp_nils (e : TypeId) (sz by_ : Nat) (ys : List AV) (H : List AObj) : rApp (some (e, sz, by_)) (some ys) H .nils = .ok ((∀ z, z ∈ ys → z.cells.length = sz) ∧ ys.length * by_ ≤ 140737488355328) (.sl H.length 0 0 ys.length) (H ++ [.arr 0 e sz ys]) := _root_.id rfl
@[go_sem] theorem rApp_sl (e : TypeId) (sz by_ : Nat) (ys : List AV) (H : List AObj) (id g off len : Nat) : rApp (some (e, sz, by_)) (some ys) H (.sl id g off len) = appRo (hget H id) e sz by_ ys H id g off len := _root_.id rfl
@[go_sem] theorem rowOf_fz (H : List AObj) (xs : List AV) : rowOf H (.fz xs) = some xs := _root_.id rfl
@[go_sem] theorem rowOf_nilc (H : List AObj) : rowOf H .nilc = some [] := _root_.id rfl
@[go_sem] theorem rowOf_nils (H : List AObj) : rowOf H .nils = some [] := _root_.id rfl
theorem runR_app (P : Program) (t u : TypeId) (H : List AObj) (K : AV → List AObj → Prop) (x y : AV) (h : runR (andR (t = u) (rApp (tap P t) (rowOf H y) H x)) K) : kAppend P t u H K x y := by
  obtain ⟨h1, h⟩ := runR_andR h
  refine ⟨h1, ?_⟩
  cases hc : tap P t with
  | none => rw [hc] at h; exact h.elim
  | some es =>
    obtain ⟨e, sz, by_⟩ := es
    cases hr : rowOf H y with
    | none => rw [hc, hr] at h; cases x <;> exact h.elim
    | some ys =>
      rw [hc, hr] at h
      simp only [hc, hr]
      cases x <;> simp only [rApp] at h <;> try (exact h.elim)
      case nils => exact ⟨h.1.1, h.1.2, h.2⟩
      case nilc => exact ⟨h.1.1, h.1.2, h.2⟩
      case sl id g off len =>
        unfold appRo at h
        simp only []
        split at h <;> rename_i hd
        · rw [hd]
          obtain ⟨⟨a0, a1, a2, a3, a4, a5, a6⟩, a7⟩ := h
          exact ⟨a0, a1, a2, a3, a4, a5, a6, a7⟩
        · exact h.elim
def rPick (c a b : AV) (H : List AObj) : R :=
  match c with
  | .bool t => .ok True (bif t then a else b) H
  | _ => .no
@[go_sem] theorem rPick_bool (t : Bool) (a b : AV) (H : List AObj) : rPick (.bool t) a b H = .ok True (bif t then a else b) H := _root_.id rfl
attribute [go_sem] cond_true cond_false
def rCall (f : AV) (args : List AV) : R :=
  match f with
  | .fn (.func g) first cap => .call (.f g) (first ++ args ++ cap)
  | .yfn id => .call (.y id) args
  | _ => .no
@[go_sem] theorem rCall_fn (g : FuncId) (first cap args : List AV) : rCall (.fn (.func g) first cap) args = .call (.f g) (first ++ args ++ cap) := _root_.id rfl
@[go_sem] theorem rCall_yfn (id : Nat) (args : List AV) : rCall (.yfn id) args = .call (.y id) args := _root_.id rfl
def rBuiltin (P : Program) (b : Builtin) (ts : List TypeId) (args : List AV) (H : List AObj) : R :=
  match b, ts, args with
  | .len, [t], [x] => rLen (P.underlying t) H x
  | .append, [t, u], [x, y] => andR (t = u) (rApp (tap P t) (rowOf H y) H x)
  | .max, _, [.int k a, .int _ b] => .ok True (.int k (if b > a then b else a)) H
  | .min, _, [.int k a, .int _ b] => .ok True (.int k (if b < a then b else a)) H
  | _, _, _ => .no
@[go_sem] theorem rBuiltin_len (P : Program) (t : TypeId) (x : AV) (H : List AObj) : rBuiltin P .len [t] [x] H = rLen (P.underlying t) H x := _root_.id rfl
@[go_sem] theorem rBuiltin_append (P : Program) (t u : TypeId) (x y : AV) (H : List AObj) : rBuiltin P .append [t, u] [x, y] H = andR (t = u) (rApp (tap P t) (rowOf H y) H x) := _root_.id rfl
@[go_sem] theorem rBuiltin_max (P : Program) (ts : List TypeId) (k k' : IntKind) (a b : Int) (H : List AObj) : rBuiltin P .max ts [.int k a, .int k' b] H = .ok True (.int k (if b > a then b else a)) H := _root_.id rfl
@[go_sem] theorem rBuiltin_min (P : Program) (ts : List TypeId) (k k' : IntKind) (a b : Int) (H : List AObj) : rBuiltin P .min ts [.int k a, .int k' b] H = .ok True (.int k (if b < a then b else a)) H := _root_.id rfl

/-- A part of a slice. -/
def partR (c : Option (TypeId × Nat)) (xs : List AV) (l h : Nat) (H : List AObj) : R :=
  match c with
  | some (_, sz) => .ok (l ≤ h ∧ h ≤ xs.length ∧ (∀ y, y ∈ xs → y.cells.length = sz)) (.fz ((xs.drop l).take (h - l))) H
  | none => .no
@[go_sem] theorem partR_some (e : TypeId) (sz : Nat) (xs : List AV) (l h : Nat) (H : List AObj) : partR (some (e, sz)) xs l h H = .ok (l ≤ h ∧ h ≤ xs.length ∧ (∀ y, y ∈ xs → y.cells.length = sz)) (.fz ((xs.drop l).take (h - l))) H := _root_.id rfl
def partO (o : Option AObj) (sz : Nat) (H : List AObj) (id g off len l h : Nat) : R :=
  match o with
  | some (.arr g' _ sz' _) => .ok (g = g' ∧ sz = sz' ∧ l ≤ h ∧ h ≤ len ∧ (l = 0 ∨ l < len)) (.sl id g (off + l) (h - l)) H
  | _ => .no
@[go_sem] theorem partO_arr (g' : Nat) (e : TypeId) (sz' : Nat) (els : List AV) (sz : Nat) (H : List AObj) (id g off len l h : Nat) : partO (some (.arr g' e sz' els)) sz H id g off len l h = .ok (g = g' ∧ sz = sz' ∧ l ≤ h ∧ h ≤ len ∧ (l = 0 ∨ l < len)) (.sl id g (off + l) (h - l)) H := _root_.id rfl
def partS (c : Option (TypeId × Nat)) (H : List AObj) (id g off len l h : Nat) : R :=
  match c with
  | some (_, sz) => partO (hget H id) sz H id g off len l h
  | none => .no
@[go_sem] theorem partS_some (e : TypeId) (sz : Nat) (H : List AObj) (id g off len l h : Nat) : partS (some (e, sz)) H id g off len l h = partO (hget H id) sz H id g off len l h := _root_.id rfl
/-- A part of a text. -/
def partT (s : List UInt8) (l h : Nat) (H : List AObj) : R := .ok (l ≤ h ∧ h ≤ s.length) (.str ((s.drop l).take (h - l))) H
@[go_sem] theorem partT_ok (s : List UInt8) (l h : Nat) (H : List AObj) : partT s l h H = .ok (l ≤ h ∧ h ≤ s.length) (.str ((s.drop l).take (h - l))) H := _root_.id rfl
def bndR (lo hi : Option Nat) (f : Nat → Nat → R) : R :=
  match lo, hi with
  | some l, some h => f l h
  | _, _ => .no
@[go_sem] theorem bndR_some (l h : Nat) (f : Nat → Nat → R) : bndR (some l) (some h) f = f l h := _root_.id rfl
def rSlice (d : Option TypeDesc) (c : Option (TypeId × Nat)) (H : List AObj) (x : AV) (lo hi : Option AV) : R :=
  match d, x with
  | some .string, .str s => bndR (loOf lo) (hiOf s.length hi) fun l h => partT s l h H
  | some (.slice _), .fz xs => bndR (loOf lo) (hiOf xs.length hi) fun l h => partR c xs l h H
  | some (.slice _), .sl id g off len => bndR (loOf lo) (hiOf len hi) fun l h => partS c H id g off len l h
  | _, _ => .no
@[go_sem] theorem rSlice_str (c : Option (TypeId × Nat)) (H : List AObj) (s : List UInt8) (lo hi : Option AV) : rSlice (some .string) c H (.str s) lo hi = bndR (loOf lo) (hiOf s.length hi) fun l h => partT s l h H := _root_.id rfl
@[go_sem] theorem rSlice_fz (e : TypeId) (c : Option (TypeId × Nat)) (H : List AObj) (xs : List AV) (lo hi : Option AV) : rSlice (some (.slice e)) c H (.fz xs) lo hi = bndR (loOf lo) (hiOf xs.length hi) fun l h => partR c xs l h H := _root_.id rfl
@[go_sem] theorem rSlice_sl (e : TypeId) (c : Option (TypeId × Nat)) (H : List AObj) (id g off len : Nat) (lo hi : Option AV) : rSlice (some (.slice e)) c H (.sl id g off len) lo hi = bndR (loOf lo) (hiOf len hi) fun l h => partS c H id g off len l h := _root_.id rfl
@[go_sem] theorem loOf_none : loOf none = some 0 := _root_.id rfl
@[go_sem] theorem loOf_nat (k : IntKind) (n : Nat) : loOf (some (.int k (n : Int))) = some n := by simp [loOf]
@[go_sem] theorem loOf_zero (k : IntKind) : loOf (some (.int k 0)) = some 0 := by simp [loOf]
@[go_sem] theorem loOf_lit (k : IntKind) (n : Nat) : loOf (some (.int k (OfNat.ofNat n : Int))) = some (OfNat.ofNat n) := by
  have : (0 : Int) ≤ (OfNat.ofNat n : Int) := Int.natCast_nonneg n
  simp only [loOf, if_pos this]; rfl
@[go_sem] theorem hiOf_none (m : Nat) : hiOf m none = some m := _root_.id rfl
@[go_sem] theorem hiOf_nat (m : Nat) (k : IntKind) (n : Nat) : hiOf m (some (.int k (n : Int))) = some n := by simp [hiOf]
@[go_sem] theorem hiOf_zero (m : Nat) (k : IntKind) : hiOf m (some (.int k 0)) = some 0 := by simp [hiOf]
@[go_sem] theorem hiOf_lit (m : Nat) (k : IntKind) (n : Nat) : hiOf m (some (.int k (OfNat.ofNat n : Int))) = some (OfNat.ofNat n) := by
  have : (0 : Int) ≤ (OfNat.ofNat n : Int) := Int.natCast_nonneg n
  simp only [hiOf, if_pos this]; rfl
theorem runR_slice (P : Program) (t : TypeId) (H : List AObj) (K : AV → List AObj → Prop) (x : AV) (lo hi : Option AV) (h : runR (rSlice (P.underlying t) (te P t) H x lo hi) K) : kSlice P t H K x lo hi none := by
  unfold rSlice at h
  unfold kSlice
  split at h
  · rename_i s hu
    rw [hu]
    unfold bndR at h
    simp only []
    split at h
    · rename_i l hh h1 h2; rw [h1, h2]; exact ⟨h.1.1, h.1.2, h.2⟩
    · exact h.elim
  · rename_i e xs hu
    rw [hu]
    unfold bndR at h
    simp only []
    split at h
    · rename_i l hh h1 h2
      rw [h1, h2]
      unfold partR at h
      split at h
      · rename_i e' sz hc; rw [hc]; exact ⟨h.1.1, h.1.2.1, h.1.2.2, h.2⟩
      · exact h.elim
    · exact h.elim
  · rename_i e id g off len hu
    rw [hu]
    unfold bndR at h
    simp only []
    split at h
    · rename_i l hh h1 h2
      rw [h1, h2]
      unfold partS at h
      split at h
      · rename_i e' sz hc
        rw [hc]
        unfold partO at h
        split at h
        · rename_i g' e2 sz' els ho
          rw [ho]
          obtain ⟨⟨q1, q2, q3, q4, q5⟩, q6⟩ := h
          exact ⟨q1, q2, q3, q4, .inl ⟨q5, q6⟩⟩
        · exact h.elim
      · exact h.elim
    · exact h.elim
  · exact h.elim

/-- An operation, as a thing. -/
def oneR (P : Program) (op : Op) (T : List AV) (H : List AObj) : R :=
  match op with
  | .move x => .ok True (ev T x) H
  | .assign x => .ok True (ev T x) H
  | .pick c a b => rPick (ev T c) (ev T a) (ev T b) H
  | .alloc e => rAlloc (zeroV P e) H
  | .box _ x => .ok (storable (ev T x) = true) (.ptr H.length 0) (H ++ [.var (ev T x).cells])
  | .build t parts => rBuild (tb P t) H (parts.toList.map fun p => (p.1, ev T p.2))
  | .buildSlice t n parts => rBsl (te P t) (zeroV P) n H (parts.toList.map fun p => (p.1, ev T p.2))
  | .load t x => rLoad (tc P t) H (ev T x)
  | .store t p x => rStore ((tc P t).map (·.2)) H (ev T x) (ev T p)
  | .binOp op t x y _ => bif isNilS y then rNilS (P.underlying t) op H (nilOf H (ev T x)) else rBin P op t H (ev T x) (ev T y)
  | .unOp op _ x => rUn op H (ev T x)
  | .convert s d x => rConv (P.underlying s) (P.underlying d) H (ev T x)
  | .makeInterface t x => .ok (ti P t = true) (.iface t (ev T x)) H
  | .nilCheck x => .ok (nonnil (ev T x) = true) (ev T x) H
  | .makeFunc f first cap => .ok True (.fn f (first.toList.map (ev T)) (cap.toList.map (ev T))) H
  | .fieldAddr s x f => rFieldAddr (tf P s f) H (ev T x)
  | .field s x f => rField (tf P s f) H (ev T x)
  | .indexAddr t x i => rIndexAddr (te P t) (ta P t) H (ev T x) (ev T i)
  | .index t x i => rIndex (P.underlying t) (ta P t) H (ev T x) (ev T i)
  | .extract x i => rExtract i H (ev T x)
  | .slice t x lo hi none => rSlice (P.underlying t) (te P t) H (ev T x) (lo.map (ev T)) (hi.map (ev T))
  | .call { callee := .builtin b, args := args, argTypes := ts } => rBuiltin P b ts.toList (args.toList.map (ev T)) H
  | .call { callee := .value f, args := args, argTypes := _ } => rCall (ev T f) (args.toList.map (ev T))
  | _ => .no

theorem oneR_sound {P : Program} {o : Oper} {T : List AV} {H : List AObj} {K X : AV → List AObj → Prop}
    (h : match oneR P o.op T H with
      | .ok c v H' => c ∧ K v H'
      | .any c v u H' => c ∧ K v H' ∧ K u H'
      | .call f args => ACallG P f args H (onEnd K X)
      | .no => False) : oneK P o T H K X := by
  obtain ⟨d, op, ty, p, af, g⟩ := o
  have run : ∀ r : R, (∀ f args, r ≠ .call f args) → (match r with
      | .ok c v H' => c ∧ K v H'
      | .any c v u H' => c ∧ K v H' ∧ K u H'
      | .call f args => ACallG P f args H (onEnd K X)
      | .no => False) → runR r K := by
    intro r hr h
    cases r with
    | ok c v H' => exact h
    | any c v u H' => exact h
    | call f args => exact absurd rfl (hr f args)
    | no => exact h.elim
  simp only at h
  cases op <;> simp only [oneR] at h <;> try (exact h.elim)
  case move x => exact h.2
  case assign x => exact h.2
  case pick c a b =>
    show match ev T c with | .bool t => K (bif t then ev T a else ev T b) H | _ => False
    unfold rPick at h
    split at h <;> rename_i hh <;> split at hh <;> first | (cases hh; done) | skip
    · cases hh; exact h.2
    · exact h.elim
  case alloc e =>
    show kAlloc P e H K
    unfold kAlloc
    unfold rAlloc at h
    cases hz : zeroV P e with
    | none => rw [hz] at h; exact h.elim
    | some z => rw [hz] at h; exact h
  case box e x => exact h
  case build t parts => exact runR_build P t H K _ (run _ (fun f args hc => by unfold rBuild valR at hc; split at hc <;> (try split at hc) <;> cases hc) h)
  case buildSlice t n parts => exact runR_bsl P t n H K _ (run _ (fun f args hc => by unfold rBsl valR at hc; split at hc <;> (try split at hc) <;> (try split at hc) <;> cases hc) h)
  case load t x =>
    refine runR_load P t H K _ (run _ (fun f args hc => ?_) h)
    unfold rLoad loadRo loadRe andR loadR at hc
    repeat' (first | (cases hc; done) | split at hc)
  case store t a x =>
    refine runR_store P t H K _ _ (run _ (fun f args hc => ?_) h)
    unfold rStore storeRo storeRe at hc
    repeat' (first | (cases hc; done) | split at hc)
  case binOp op t x y yt =>
    show if isNilS y = true then kNilS P op t H K (ev T x) else kBin P op t H K (ev T x) (ev T y)
    cases hy : isNilS y with
    | true =>
      rw [hy] at h
      rw [if_pos rfl]
      refine runR_nilS P op t H K _ (run _ (fun f args hc => ?_) h)
      unfold rNilS at hc
      repeat' (first | (cases hc; done) | split at hc)
    | false =>
      rw [hy] at h
      rw [if_neg (by simp)]
      refine runR_bin P op t H K _ _ (run _ (fun f args hc => ?_) h)
      unfold rBin valR eqRt eqR rPtr at hc
      repeat' (first | (cases hc; done) | split at hc)
  case slice t x lo hi mx =>
    cases mx with
    | some m => exact h.elim
    | none =>
      refine runR_slice P t H K _ _ _ (run _ (fun f args hc => ?_) h)
      unfold rSlice bndR partR partS partO partT at hc
      repeat' (first | (cases hc; done) | split at hc)
  case unOp op t x =>
    refine runR_un op H K _ (run _ (fun f args hc => ?_) h)
    unfold rUn at hc
    repeat' (first | (cases hc; done) | split at hc)
  case convert s t x =>
    refine runR_conv P s t H K _ (run _ (fun f args hc => ?_) h)
    unfold rConv at hc
    repeat' (first | (cases hc; done) | split at hc)
  case makeInterface t x => exact h
  case makeFunc f a b => exact h.2
  case nilCheck x => exact h
  case fieldAddr s x f =>
    refine runR_fieldAddr P s f H K _ (run _ (fun f args hc => ?_) h)
    unfold rFieldAddr at hc
    repeat' (first | (cases hc; done) | split at hc)
  case field s x f =>
    refine runR_field P s f H K _ (run _ (fun f args hc => ?_) h)
    unfold rField at hc
    repeat' (first | (cases hc; done) | split at hc)
  case indexAddr t x i =>
    refine runR_indexAddr P t H K _ _ (run _ (fun f args hc => ?_) h)
    unfold rIndexAddr idxRf idxRs idxRp idxRe at hc
    repeat' (first | (cases hc; done) | split at hc)
  case index t x i =>
    refine runR_index P t H K _ _ (run _ (fun f args hc => ?_) h)
    unfold rIndex idxRt idxRa at hc
    repeat' (first | (cases hc; done) | split at hc)
  case extract x i =>
    refine runR_extract i H K _ (run _ (fun f args hc => ?_) h)
    unfold rExtract at hc
    repeat' (first | (cases hc; done) | split at hc)
  case call c =>
    obtain ⟨callee, args, ts⟩ := c
    cases callee with
    | value f =>
      simp only at h
      show match ev T f with | .fn (.func g) first cap => ACallF P g (first ++ args.toList.map (ev T) ++ cap) H (onEnd K X) | .yfn id => ACallY P id (args.toList.map (ev T)) H (onEnd K X) | _ => False
      unfold rCall at h
      split at h <;> rename_i hh <;> split at hh <;> first | (cases hh; done) | skip
      · cases hh; exact h
      · cases hh; exact h
      · exact h.elim
    | invoke r m => exact h.elim
    | builtin b =>
      simp only at h
      show kBuiltin P b ts.toList (args.toList.map (ev T)) H K
      unfold rBuiltin at h
      unfold kBuiltin
      generalize ts.toList = ts' at h ⊢
      generalize args.toList.map (ev T) = as at h ⊢
      split at h <;> rename_i hh <;> split at hh
      all_goals first
        | (exact runR_len P _ H K _ (by rw [hh]; exact h))
        | (exact runR_app P _ _ H K _ _ (by rw [hh]; exact h))
        | (cases hh; exact h.2)
        | exact h.elim
        | (exfalso; unfold rLen at hh; repeat' (first | (cases hh; done) | split at hh))
        | (exfalso; unfold rApp appRo andR at hh; repeat' (first | (cases hh; done) | split at hh))
        | (cases hh)

section
variable (P : Program) (T : List AV) (H : List AObj)
@[go_sem] theorem oneR_call (f : Operand) (args : List Operand) (ts : Array TypeId) : oneR P (.call ⟨.value f, args.toArray, ts⟩) T H = rCall (ev T f) (args.map (ev T)) := _root_.id rfl
@[go_sem] theorem oneR_builtin (b : Builtin) (args : List Operand) (ts : List TypeId) : oneR P (.call ⟨.builtin b, args.toArray, ts.toArray⟩) T H = rBuiltin P b ts (args.map (ev T)) H := _root_.id rfl
@[go_sem] theorem oneR_move (x : Operand) : oneR P (.move x) T H = .ok True (ev T x) H := _root_.id rfl
@[go_sem] theorem oneR_assign (x : Operand) : oneR P (.assign x) T H = .ok True (ev T x) H := _root_.id rfl
@[go_sem] theorem oneR_pick (c a b : Operand) : oneR P (.pick c a b) T H = rPick (ev T c) (ev T a) (ev T b) H := _root_.id rfl
@[go_sem] theorem oneR_alloc (e : TypeId) : oneR P (.alloc e) T H = rAlloc (zeroV P e) H := _root_.id rfl
@[go_sem] theorem oneR_box (e : TypeId) (x : Operand) : oneR P (.box e x) T H = .ok (storable (ev T x) = true) (.ptr H.length 0) (H ++ [.var (ev T x).cells]) := _root_.id rfl
@[go_sem] theorem oneR_build (t : TypeId) (parts : List (Nat × Operand)) : oneR P (.build t parts.toArray) T H = rBuild (tb P t) H (parts.map fun p => (p.1, ev T p.2)) := _root_.id rfl
@[go_sem] theorem oneR_buildSlice (t : TypeId) (n : Nat) (parts : List (Nat × Operand)) : oneR P (.buildSlice t n parts.toArray) T H = rBsl (te P t) (zeroV P) n H (parts.map fun p => (p.1, ev T p.2)) := _root_.id rfl
@[go_sem] theorem oneR_load (t : TypeId) (x : Operand) : oneR P (.load t x) T H = rLoad (tc P t) H (ev T x) := _root_.id rfl
@[go_sem] theorem oneR_store (t : TypeId) (p x : Operand) : oneR P (.store t p x) T H = rStore ((tc P t).map (·.2)) H (ev T x) (ev T p) := _root_.id rfl
@[go_sem] theorem oneR_bin (op : BinOp) (t u : TypeId) (x y : Operand) : oneR P (.binOp op t x y u) T H = bif isNilS y then rNilS (P.underlying t) op H (nilOf H (ev T x)) else rBin P op t H (ev T x) (ev T y) := _root_.id rfl
@[go_sem] theorem oneR_un (op : UnOp) (t : TypeId) (x : Operand) : oneR P (.unOp op t x) T H = rUn op H (ev T x) := _root_.id rfl
@[go_sem] theorem oneR_conv (s t : TypeId) (x : Operand) : oneR P (.convert s t x) T H = rConv (P.underlying s) (P.underlying t) H (ev T x) := _root_.id rfl
@[go_sem] theorem oneR_mkIface (t : TypeId) (x : Operand) : oneR P (.makeInterface t x) T H = .ok (ti P t = true) (.iface t (ev T x)) H := _root_.id rfl
@[go_sem] theorem oneR_mkFunc (f : Fn) (a b : List Operand) : oneR P (.makeFunc f a.toArray b.toArray) T H = .ok True (.fn f (a.map (ev T)) (b.map (ev T))) H := _root_.id rfl
@[go_sem] theorem oneR_fieldAddr (s : TypeId) (x : Operand) (f : Nat) : oneR P (.fieldAddr s x f) T H = rFieldAddr (tf P s f) H (ev T x) := _root_.id rfl
@[go_sem] theorem oneR_field (s : TypeId) (x : Operand) (f : Nat) : oneR P (.field s x f) T H = rField (tf P s f) H (ev T x) := _root_.id rfl
@[go_sem] theorem oneR_indexAddr (t : TypeId) (x i : Operand) : oneR P (.indexAddr t x i) T H = rIndexAddr (te P t) (ta P t) H (ev T x) (ev T i) := _root_.id rfl
@[go_sem] theorem oneR_index (t : TypeId) (x i : Operand) : oneR P (.index t x i) T H = rIndex (P.underlying t) (ta P t) H (ev T x) (ev T i) := _root_.id rfl
@[go_sem] theorem oneR_slice (t : TypeId) (x : Operand) (lo hi : Option Operand) : oneR P (.slice t x lo hi none) T H = rSlice (P.underlying t) (te P t) H (ev T x) (lo.map (ev T)) (hi.map (ev T)) := _root_.id rfl
@[go_sem] theorem optmap_none {α β : Type} (f : α → β) : Option.map f none = none := _root_.id rfl
@[go_sem] theorem nonnil_ptr (id off : Nat) : nonnil (.ptr id off) = true := _root_.id rfl
@[go_sem] theorem nonnil_eptr (id g i off : Nat) : nonnil (.eptr id g i off) = true := _root_.id rfl
@[go_sem] theorem nonnil_fptr (cs : List AV) : nonnil (.fptr cs) = true := _root_.id rfl
@[go_sem] theorem nonnil_fn (g : FuncId) (a b : List AV) : nonnil (.fn (.func g) a b) = true := _root_.id rfl
@[go_sem] theorem oneR_nilCheck (x : Operand) : oneR P (.nilCheck x) T H = .ok (nonnil (ev T x) = true) (ev T x) H := _root_.id rfl
@[go_sem] theorem oneR_extract (x : Operand) (i : Nat) : oneR P (.extract x i) T H = rExtract i H (ev T x) := _root_.id rfl
end

/-! ## rows of operations -/
def wantG (x : AV) (want : Bool) : Option Bool :=
  match x with
  | .bool b => some (b == want)
  | .tuple [] => some false
  | _ => none
@[go_sem] theorem wantG_true (b : Bool) : wantG (.bool b) true = some b := by cases b <;> rfl
@[go_sem] theorem wantG_false (b : Bool) : wantG (.bool b) false = some (!b) := by cases b <;> rfl
@[go_sem] theorem wantG_undef (want : Bool) : wantG (.tuple []) want = some false := _root_.id rfl
def dstOf (ops : List Oper) (j : Nat) : Option Tmp := (ops[j]?).bind (·.dst)
@[go_sem] theorem dstOf_zero (o : Oper) (l : List Oper) : dstOf (o :: l) 0 = o.dst := _root_.id rfl
@[go_sem] theorem dstOf_succ (o : Oper) (l : List Oper) (n : Nat) : dstOf (o :: l) (n + 1) = dstOf l n := _root_.id rfl
def wantO (T : List AV) (want : Bool) : Option Tmp → Option Bool
  | some d => wantG (look T d) want
  | none => some false
@[go_sem] theorem wantO_some (T : List AV) (want : Bool) (d : Tmp) : wantO T want (some d) = wantG (look T d) want := _root_.id rfl
theorem wantedA_some (l : List Oper) (T : List AV) (d : Option Tmp) (op : Op) (ty : TypeId) (p : String) (af : Array Edge) (j : Nat) (want : Bool) :
    wantedA l.toArray T ⟨d, op, ty, p, af, some (j, want)⟩ = wantO T want (dstOf l j) := by
  unfold wantedA wantO dstOf
  simp only [List.getElem?_toArray]
  cases (l[j]?).bind (·.dst) with
  | none => rfl
  | some d =>
    simp only []
    unfold wantG
    cases look T d <;> rfl

/-- The walk of a row of operations; l is the whole row. -/
def walkL (P : Program) (l : List Oper) (Q : AExit → AState → Prop) : List Oper → List AV → List AObj → Prop
  | [], T, H => Q .normal ⟨T, H⟩
  | o :: os, T, H =>
    match o.guard with
    | none =>
      match oneR P o.op T H with
      | .ok c v H' => c ∧ walkL P l Q os (put T o.dst v) H'
      | .any c v u H' => c ∧ walkL P l Q os (put T o.dst v) H' ∧ walkL P l Q os (put T o.dst u) H'
      | .call g args => ACallG P g args H (onEnd (fun v H' => walkL P l Q os (put T o.dst v) H') (fun v H' => Q (.panic v) ⟨T, H'⟩))
      | .no => False
    | some (j, want) =>
      match wantO T want (dstOf l j) with
      | some true =>
        match oneR P o.op T H with
        | .ok c v H' => c ∧ walkL P l Q os (put T o.dst v) H'
        | .any c v u H' => c ∧ walkL P l Q os (put T o.dst v) H' ∧ walkL P l Q os (put T o.dst u) H'
        | .call g args => ACallG P g args H (onEnd (fun v H' => walkL P l Q os (put T o.dst v) H') (fun v H' => Q (.panic v) ⟨T, H'⟩))
        | .no => False
      | some false => walkL P l Q os (put T o.dst (.tuple [])) H
      | none => False

section
variable (P : Program) (l : List Oper) (Q : AExit → AState → Prop)
/-- Both ways. -/
structure Both (A B : Prop) : Prop where
  fst : A
  snd : B
@[go_sem] theorem both_self (A : Prop) : Both A A = A := propext ⟨fun h => h.1, fun h => ⟨h, h⟩⟩
theorem both_and (A B : Prop) : (A ∧ B) = Both A B := propext ⟨fun h => ⟨h.1, h.2⟩, fun h => ⟨h.1, h.2⟩⟩
/-- A call in a row of operations. -/
def callW (g : Gn) (args : List AV) (d : Option Tmp) (os : List Oper) (T : List AV) (H : List AObj) : Prop :=
  ACallG P g args H (onEnd (fun v H' => walkL P l Q os (put T d v) H') (fun v H' => Q (.panic v) ⟨T, H'⟩))
/-- What an operation has come to, and what goes on with it. -/
def goW (r : R) (d : Option Tmp) (os : List Oper) (T : List AV) (H : List AObj) : Prop :=
  match r with
  | .ok c v H' => c ∧ walkL P l Q os (put T d v) H'
  | .any c v u H' => c ∧ walkL P l Q os (put T d v) H' ∧ walkL P l Q os (put T d u) H'
  | .call g args => ACallG P g args H (onEnd (fun v H' => walkL P l Q os (put T d v) H') (fun v H' => Q (.panic v) ⟨T, H'⟩))
  | .no => False
/-- An operation under a guard. -/
def gdW (w : Option Bool) (op : Op) (d : Option Tmp) (os : List Oper) (T : List AV) (H : List AObj) : Prop :=
  match w with
  | some true => goW P l Q (oneR P op T H) d os T H
  | some false => walkL P l Q os (put T d (.tuple [])) H
  | none => False
@[go_sem] theorem walkL_nil (T : List AV) (H : List AObj) : walkL P l Q [] T H = Q .normal ⟨T, H⟩ := _root_.id rfl
@[go_sem] theorem walkL_cons (d : Option Tmp) (op : Op) (ty : TypeId) (p : String) (af : Array Edge) (os : List Oper) (T : List AV) (H : List AObj) :
    walkL P l Q (⟨d, op, ty, p, af, none⟩ :: os) T H = goW P l Q (oneR P op T H) d os T H := _root_.id rfl
@[go_sem] theorem walkL_guard (d : Option Tmp) (op : Op) (ty : TypeId) (p : String) (af : Array Edge) (j : Nat) (want : Bool) (os : List Oper) (T : List AV) (H : List AObj) :
    walkL P l Q (⟨d, op, ty, p, af, some (j, want)⟩ :: os) T H = gdW P l Q (wantO T want (dstOf l j)) op d os T H := _root_.id rfl
@[go_sem] theorem goW_ok (c : Prop) (v : AV) (H' : List AObj) (d : Option Tmp) (os : List Oper) (T : List AV) (H : List AObj) : goW P l Q (.ok c v H') d os T H = (c ∧ walkL P l Q os (put T d v) H') := _root_.id rfl
@[go_sem] theorem goW_any (c : Prop) (v u : AV) (H' : List AObj) (d : Option Tmp) (os : List Oper) (T : List AV) (H : List AObj) : goW P l Q (.any c v u H') d os T H = (c ∧ Both (walkL P l Q os (put T d v) H') (walkL P l Q os (put T d u) H')) := by rw [← both_and]; rfl
@[go_sem] theorem goW_call (g : Gn) (args : List AV) (d : Option Tmp) (os : List Oper) (T : List AV) (H : List AObj) : goW P l Q (.call g args) d os T H = callW P l Q g args d os T H := _root_.id rfl
@[go_sem] theorem gdW_true (op : Op) (d : Option Tmp) (os : List Oper) (T : List AV) (H : List AObj) : gdW P l Q (some true) op d os T H = goW P l Q (oneR P op T H) d os T H := _root_.id rfl
@[go_sem] theorem gdW_false (op : Op) (d : Option Tmp) (os : List Oper) (T : List AV) (H : List AObj) : gdW P l Q (some false) op d os T H = walkL P l Q os (put T d (.tuple [])) H := _root_.id rfl
end

section
variable {P : Program} {l : List Oper} {Q : AExit → AState → Prop}
theorem walkL_sound : ∀ (os : List Oper) (T : List AV) (H : List AObj), walkL P l Q os T H → opsK P l.toArray (onPanic Q) (fun T H => Q .normal ⟨T, H⟩) os T H
  | [], T, H, h => h
  | o :: os, T, H, h => by
    have one : (match oneR P o.op T H with
        | .ok c v H' => c ∧ walkL P l Q os (put T o.dst v) H'
        | .any c v u H' => c ∧ walkL P l Q os (put T o.dst v) H' ∧ walkL P l Q os (put T o.dst u) H'
        | .call g args => ACallG P g args H (onEnd (fun v H' => walkL P l Q os (put T o.dst v) H') (fun v H' => Q (.panic v) ⟨T, H'⟩))
        | .no => False) → oneK P o T H (fun v H' => opsK P l.toArray (onPanic Q) (fun T H => Q .normal ⟨T, H⟩) os (put T o.dst v) H') (onPanic Q T) := by
      intro h
      refine oneR_sound ?_
      split at h
      · exact ⟨h.1, walkL_sound os _ _ h.2⟩
      · exact ⟨h.1, walkL_sound os _ _ h.2.1, walkL_sound os _ _ h.2.2⟩
      · refine ACallG.mono h (fun x H' hx => ?_)
        cases x with
        | ret v => exact walkL_sound os _ _ hx
        | panic v => exact hx
      · exact h
    obtain ⟨d, op, ty, p, af, g⟩ := o
    cases g with
    | none => exact one h
    | some g =>
      obtain ⟨j, want⟩ := g
      rw [walkL_guard] at h
      simp only [opsK, wantedA_some]
      unfold gdW at h
      cases hw : wantO T want (dstOf l j) with
      | none => rw [hw] at h; exact h.elim
      | some b =>
        rw [hw] at h
        cases b with
        | true => exact one h
        | false => exact walkL_sound os _ _ h
/-- A region, walked. -/
theorem awp_region_w {rd : Bool} {m id : Nat} {S : AState} (hm : m ≤ S.H.length) (h : ∀ Q' : AExit → AState → Prop, (∀ e S', Q e S' → Q' e S') → walkL P l Q' l S.T S.H) : AWP P rd m (.region id l.toArray false) Q S :=
  awp_region hm (walkL_sound l S.T S.H (h Q fun _ _ h => h))
/-- Both ways through a guard. -/
theorem gdW_split {b : Bool} {op : Op} {d : Option Tmp} {os : List Oper} {T : List AV} {H : List AObj} (h1 : b = true → goW P l Q (oneR P op T H) d os T H) (h2 : b = false → walkL P l Q os (put T d (.tuple [])) H) : gdW P l Q (some b) op d os T H := by
  cases b
  · exact h2 rfl
  · exact h1 rfl
theorem callW_quiet {g : FuncId} {args : List AV} {d : Option Tmp} {os : List Oper} {T : List AV} {H : List AObj} {v : AV} (h : QuietF P g args H v) (hk : walkL P l Q os (put T d v) H) : callW P l Q (.f g) args d os T H :=
  ACallF.quiet h hk
theorem callW_mono {g : FuncId} {args : List AV} {d : Option Tmp} {os : List Oper} {T : List AV} {H : List AObj} {Q' : AEnd → List AObj → Prop} (h : ACallF P g args H Q')
    (h1 : ∀ v H', Q' (.ret v) H' → walkL P l Q os (put T d v) H') (h2 : ∀ v H', Q' (.panic v) H' → Q (.panic v) ⟨T, H'⟩) : callW P l Q (.f g) args d os T H :=
  h.mono (fun x H' hq => by cases x with | ret v => exact h1 v H' hq | panic v => exact h2 v H' hq)
end

/-- The walk of a drawn row that turns nothing; l is the whole row. -/
def walkQ (P : Program) (l : List Oper) (K : List AV → Prop) (H : List AObj) : List Oper → List AV → Prop
  | [], T => K T
  | o :: os, T =>
    match o.guard with
    | none =>
      match oneR P o.op T H with
      | .ok c v H' => (c ∧ H' = H) ∧ walkQ P l K H os (put T o.dst v)
      | .any _ _ _ _ => False
      | .call g args => ∃ v, QuietG P g args H v ∧ walkQ P l K H os (put T o.dst v)
      | .no => False
    | some (j, want) =>
      match wantO T want (dstOf l j) with
      | some true =>
        match oneR P o.op T H with
        | .ok c v H' => (c ∧ H' = H) ∧ walkQ P l K H os (put T o.dst v)
        | .any _ _ _ _ => False
        | .call g args => ∃ v, QuietG P g args H v ∧ walkQ P l K H os (put T o.dst v)
        | .no => False
      | some false => walkQ P l K H os (put T o.dst (.tuple []))
      | none => False
section
variable (P : Program) (l : List Oper) (K : List AV → Prop) (H : List AObj)
def callQ (g : Gn) (args : List AV) (d : Option Tmp) (os : List Oper) (T : List AV) : Prop := ∃ v, QuietG P g args H v ∧ walkQ P l K H os (put T d v)
def goQ (r : R) (d : Option Tmp) (os : List Oper) (T : List AV) : Prop :=
  match r with
  | .ok c v H' => (c ∧ H' = H) ∧ walkQ P l K H os (put T d v)
  | .any _ _ _ _ => False
  | .call g args => ∃ v, QuietG P g args H v ∧ walkQ P l K H os (put T d v)
  | .no => False
def gdQ (w : Option Bool) (op : Op) (d : Option Tmp) (os : List Oper) (T : List AV) : Prop :=
  match w with
  | some true => goQ P l K H (oneR P op T H) d os T
  | some false => walkQ P l K H os (put T d (.tuple []))
  | none => False
@[go_sem] theorem walkQ_nil (T : List AV) : walkQ P l K H [] T = K T := _root_.id rfl
@[go_sem] theorem walkQ_cons (d : Option Tmp) (op : Op) (ty : TypeId) (p : String) (af : Array Edge) (os : List Oper) (T : List AV) :
    walkQ P l K H (⟨d, op, ty, p, af, none⟩ :: os) T = goQ P l K H (oneR P op T H) d os T := _root_.id rfl
@[go_sem] theorem walkQ_guard (d : Option Tmp) (op : Op) (ty : TypeId) (p : String) (af : Array Edge) (j : Nat) (want : Bool) (os : List Oper) (T : List AV) :
    walkQ P l K H (⟨d, op, ty, p, af, some (j, want)⟩ :: os) T = gdQ P l K H (wantO T want (dstOf l j)) op d os T := _root_.id rfl
@[go_sem] theorem goQ_ok (c : Prop) (v : AV) (H' : List AObj) (d : Option Tmp) (os : List Oper) (T : List AV) : goQ P l K H (.ok c v H') d os T = ((c ∧ H' = H) ∧ walkQ P l K H os (put T d v)) := _root_.id rfl
@[go_sem] theorem goQ_call (g : Gn) (args : List AV) (d : Option Tmp) (os : List Oper) (T : List AV) : goQ P l K H (.call g args) d os T = callQ P l K H g args d os T := _root_.id rfl
@[go_sem] theorem gdQ_true (op : Op) (d : Option Tmp) (os : List Oper) (T : List AV) : gdQ P l K H (some true) op d os T = goQ P l K H (oneR P op T H) d os T := _root_.id rfl
@[go_sem] theorem gdQ_false (op : Op) (d : Option Tmp) (os : List Oper) (T : List AV) : gdQ P l K H (some false) op d os T = walkQ P l K H os (put T d (.tuple [])) := _root_.id rfl
end
section
variable {P : Program} {l : List Oper} {K : List AV → Prop} {H : List AObj}
theorem walkQ_sound : ∀ (os : List Oper) (T : List AV), walkQ P l K H os T → quiK P l.toArray H K os T
  | [], T, h => h
  | o :: os, T, h => by
    have one : (match oneR P o.op T H with
        | .ok c v H' => (c ∧ H' = H) ∧ walkQ P l K H os (put T o.dst v)
        | .any _ _ _ _ => False
        | .call g args => ∃ v, QuietG P g args H v ∧ walkQ P l K H os (put T o.dst v)
        | .no => False) → (∃ v, oneK P o T H (fun x H' => x = v ∧ H' = H) (fun _ _ => False) ∧ quiK P l.toArray H K os (put T o.dst v)) := by
      intro h
      split at h
      · rename_i c v H' hr
        refine ⟨v, oneR_sound ?_, walkQ_sound os _ h.2⟩
        rw [hr]
        exact ⟨h.1.1, rfl, h.1.2⟩
      · exact h.elim
      · rename_i g args hr
        obtain ⟨v, hv, hk⟩ := h
        refine ⟨v, oneR_sound ?_, walkQ_sound os _ hk⟩
        rw [hr]
        exact ACallG.quiet hv ⟨rfl, rfl⟩
      · exact h.elim
    obtain ⟨d, op, ty, p, af, g⟩ := o
    cases g with
    | none => exact one h
    | some g =>
      obtain ⟨j, want⟩ := g
      rw [walkQ_guard] at h
      simp only [quiK, wantedA_some]
      unfold gdQ at h
      cases hw : wantO T want (dstOf l j) with
      | none => rw [hw] at h; exact h.elim
      | some b =>
        rw [hw] at h
        cases b with
        | true => exact one h
        | false => exact walkQ_sound os _ h
theorem awp_region_q {rd : Bool} {m id n : Nat} {Q : AExit → AState → Prop} {T : List AV} (hmix : P.follows .mixedOrders = true) (hok : drawOK l.toArray [] = true) (hin : dstsIn l.toArray n = true) (hn : T.length = n) (hm : m ≤ H.length)
    (h : ∀ K : List AV → Prop, (∀ T', Q .normal ⟨T', H⟩ → K T') → walkQ P l K H l T) : AWP P rd m (.region id l.toArray true) Q ⟨T, H⟩ :=
  awp_region_quiet hmix hok hin hn hm (walkQ_sound l T (h _ fun _ h => h))
theorem gdQ_split {b : Bool} {op : Op} {d : Option Tmp} {os : List Oper} {T : List AV} (h1 : b = true → goQ P l K H (oneR P op T H) d os T) (h2 : b = false → walkQ P l K H os (put T d (.tuple []))) : gdQ P l K H (some b) op d os T := by
  cases b
  · exact h2 rfl
  · exact h1 rfl
theorem callQ_quiet {g : FuncId} {args : List AV} {d : Option Tmp} {os : List Oper} {T : List AV} {v : AV} (h : QuietF P g args H v) (hk : walkQ P l K H os (put T d v)) : callQ P l K H (.f g) args d os T := ⟨v, h, hk⟩
end

/-! ## results -/
section
variable (P : Program) (T : List AV) (H : List AObj)
@[go_sem] theorem resS_nil : resS P T H [] = some (.tuple []) := _root_.id rfl
@[go_sem] theorem resS_one (r : ResultVar) : resS P T H [r] = resOne P T H r := _root_.id rfl
@[go_sem] theorem resS_two (r s : ResultVar) : resS P T H [r, s] = two (resOne P T H r) (resOne P T H s) := _root_.id rfl
@[go_sem] theorem resS_three (r s t : ResultVar) : resS P T H [r, s, t] = three (resOne P T H r) (resOne P T H s) (resOne P T H t) := _root_.id rfl
@[go_sem] theorem resOne_tmp (t : Tmp) : resOne P T H (.tmp t) = some (look T t) := _root_.id rfl
@[go_sem] theorem resOne_cell (a : Tmp) (t : TypeId) : resOne P T H (.cell a t) = resCell (tc P t) H (look T a) := _root_.id rfl
@[go_sem] theorem two_some (x y : AV) : two (some x) (some y) = some (.tuple [x, y]) := _root_.id rfl
@[go_sem] theorem three_some (x y z : AV) : three (some x) (some y) (some z) = some (.tuple [x, y, z]) := _root_.id rfl
def resCo (c : Option (Bool × Nat)) (off : Nat) (o : Option AObj) : Option AV :=
  match o with
  | some (.var cs) => loadV c (cs.drop off)
  | _ => none
@[go_sem] theorem resCell_ptr (c : Option (Bool × Nat)) (id off : Nat) : resCell c H (.ptr id off) = resCo c off (hget H id) := _root_.id rfl
@[go_sem] theorem resCo_var (c : Option (Bool × Nat)) (off : Nat) (cs : List AV) : resCo c off (some (.var cs)) = loadV c (cs.drop off) := _root_.id rfl
@[go_sem] theorem loadV_agg (n : Nat) (cs : List AV) : loadV (some (true, n)) cs = if n ≤ cs.length then some (.agg (cs.take n)) else none := _root_.id rfl
@[go_sem] theorem loadV_one (n : Nat) (c : AV) (cs : List AV) : loadV (some (false, n)) (c :: cs) = some c := _root_.id rfl
end

/-! ## what simp needs of lists and numbers -/
attribute [go_sem] eq_self List.map_cons List.map_nil List.nil_append List.cons_append List.append_nil List.append_assoc List.length_cons List.length_nil List.length_map List.length_append List.drop_zero List.drop_succ_cons List.drop_nil List.take_zero List.take_succ_cons List.take_nil
  List.getElem?_cons_zero List.getElem?_cons_succ List.set_cons_zero List.set_cons_succ List.replicate_succ List.replicate_zero List.all_cons List.all_nil and_true true_and if_true Nat.zero_add Nat.add_zero Nat.le_refl ite_true ite_false exists_eq_left' exists_eq_left Bool.true_and Bool.and_self Bool.not_true Bool.not_false Bool.false_and
  List.toList_toArray Int.natCast_nonneg Int.ofNat_lt Int.ofNat_le Int.toNat_natCast decide_true decide_false

theorem wrap64_in {n : Int} (h1 : -9223372036854775808 ≤ n) (h2 : n ≤ 9223372036854775807) : IntKind.i64.wrap n = n := Go.IntWalk.i64_in n ⟨h1, h2⟩

theorem wrap_succ {i n : Nat} (h : i < n) (hn : n ≤ 9223372036854775807) : IntKind.i64.wrap ((i : Int) + 1) = ((i + 1 : Nat) : Int) := by
  rw [wrap64_in (by omega) (by omega)]
  rfl

@[go_sem] theorem andThen_normal (next : AState → Prop) (Q : AExit → AState → Prop) (S : AState) : AExit.andThen next Q .normal S = next S := _root_.id rfl
@[go_sem] theorem andThen_ret (next : AState → Prop) (Q : AExit → AState → Prop) (S : AState) : AExit.andThen next Q .ret S = Q .ret S := _root_.id rfl
@[go_sem] theorem andThen_exit (next : AState → Prop) (Q : AExit → AState → Prop) (S : AState) (i : Nat) : AExit.andThen next Q (.exit i) S = Q (.exit i) S := _root_.id rfl
@[go_sem] theorem andThen_panic (next : AState → Prop) (Q : AExit → AState → Prop) (S : AState) (v : AV) : AExit.andThen next Q (.panic v) S = Q (.panic v) S := _root_.id rfl
@[go_sem] theorem inBlock_normal (id : Nat) (Q : AExit → AState → Prop) (S : AState) : AExit.inBlock id Q .normal S = Q .normal S := _root_.id rfl
@[go_sem] theorem inBlock_ret (id : Nat) (Q : AExit → AState → Prop) (S : AState) : AExit.inBlock id Q .ret S = Q .ret S := _root_.id rfl
@[go_sem] theorem inBlock_panic (id : Nat) (Q : AExit → AState → Prop) (S : AState) (v : AV) : AExit.inBlock id Q (.panic v) S = Q (.panic v) S := _root_.id rfl
@[go_sem] theorem inBlock_exit (id i : Nat) (Q : AExit → AState → Prop) (S : AState) : AExit.inBlock id Q (.exit i) S = if i = id then Q .normal S else Q (.exit i) S := _root_.id rfl

/-! ## goals of a walk -/
theorem isWL {P : Program} {l : List Oper} {Q : AExit → AState → Prop} {os : List Oper} {T : List AV} {H : List AObj} (h : walkL P l Q os T H) : walkL P l Q os T H := h
theorem isGW {P : Program} {l : List Oper} {Q : AExit → AState → Prop} {r : R} {d : Option Tmp} {os : List Oper} {T : List AV} {H : List AObj} (h : goW P l Q r d os T H) : goW P l Q r d os T H := h
theorem isWQ {P : Program} {l : List Oper} {K : List AV → Prop} {H : List AObj} {os : List Oper} {T : List AV} (h : walkQ P l K H os T) : walkQ P l K H os T := h
theorem isGQ {P : Program} {l : List Oper} {K : List AV → Prop} {H : List AObj} {r : R} {d : Option Tmp} {os : List Oper} {T : List AV} (h : goQ P l K H r d os T) : goQ P l K H r d os T := h

end Go.Proofs.Ytamoclnnakdiaaa.Abs
