/-
  Operations over abstract states: what each yields, and that the machine's operation yields what that stands for.
  Conditions: none.
-/
import Derived.Test.YtamoclnnakdiaaaA1
import Derived.Laws.Cells
import Derived.Laws.CopyRow
import Derived.Laws.Rows
namespace Go.Proofs.Ytamoclnnakdiaaa.Abs
open Go Go.RowKit
set_option linter.unusedVariables false
set_option linter.unusedSimpArgs false

/-- Is a type one of many cells; how many. -/
def tc (P : Program) (t : TypeId) : Option (Bool × Nat) :=
  match P.underlying t, P.info? t with
  | some (.struct _), some i => some (true, i.size)
  | some (.array _ _), some i => some (true, i.size)
  | some _, some i => some (false, i.size)
  | _, _ => none

/-- Where a struct's field lies: its offset, is it of many cells, how many (at least one). -/
def tf (P : Program) (s : TypeId) (f : Nat) : Option (Nat × Bool × Nat) :=
  match P.underlying s with
  | some (.struct fs) =>
    match fs[f]? with
    | some fl =>
      match tc P fl.type with
      | some (g, n + 1) => some (fl.offset, g, n + 1)
      | _ => none
    | none => none
  | _ => none

/-- A slice type's element type, and an element's cells. -/
def te (P : Program) (t : TypeId) : Option (TypeId × Nat) :=
  match P.underlying t with
  | some (.slice e) =>
    match P.info? e with
    | some i => some (e, i.size)
    | none => none
  | _ => none

def zeroV (P : Program) (t : TypeId) : Option AV :=
  match P.info? t with
  | some i =>
    match i.zero with
    | some v => some (cv v)
    | none => none
  | none => none

theorem tc_isAgg {P : Program} {t : TypeId} {g : Bool} {n : Nat} (h : tc P t = some (g, n)) (w : World) : (isAgg t).run P w = .ok g w ∧ (sizeOf t).run P w = .ok n w := by
  unfold tc at h
  split at h
  · rename_i fs i hu hi
    cases h
    simp [isAgg, sizeOf, typeInfo, run_underlying hu, hi]
  · rename_i a b i hu hi
    cases h
    simp [isAgg, sizeOf, typeInfo, run_underlying hu, hi]
  · rename_i d i h1 h2 hu hi
    cases h
    simp only [isAgg, sizeOf, typeInfo, Sem.run_bind, run_underlying hu, run_program, Result.andThen_ok, hi]
    constructor
    · cases d <;> first | rfl | (exfalso; first | exact h1 _ rfl | exact h2 _ _ rfl)
    · rfl
  · cases h

theorem tc_size {P : Program} {t : TypeId} {g : Bool} {n : Nat} (h : tc P t = some (g, n)) : ∃ i, P.info? t = some i ∧ i.size = n := by
  unfold tc at h
  split at h <;> first | (cases h; done) | (rename_i hi; simp only [Option.some.injEq, Prod.mk.injEq] at h; exact ⟨_, hi, h.2⟩)

/-- May a value be laid into cells? -/
def storable : AV → Bool
  | .junk => false
  | .tuple _ => false
  | .yfn _ => false
  | _ => true

theorem Rep.cells {ρ : Nat → Nat} {H : List AObj} {w : World} {x : AV} {v : Value} (h : Rep ρ H w x v) (hs : storable x = true) :
    v.cells.size = x.cells.length ∧ ∀ (k : Nat) (y : AV), x.cells[k]? = some y → (v.cells.getD k undef).oneCell' = true ∧ Rep ρ H w y (v.cells.getD k undef) := by
  have one : ∀ {x : AV} {v : Value}, Rep ρ H w x v → x.cells = [x] → v.cells = #[v] → v.oneCell' = true →
      v.cells.size = x.cells.length ∧ ∀ (k : Nat) (y : AV), x.cells[k]? = some y → (v.cells.getD k undef).oneCell' = true ∧ Rep ρ H w y (v.cells.getD k undef) := by
    intro x v hr h1 h2 h3
    rw [h1, h2]
    refine ⟨rfl, ?_⟩
    intro k y hk
    match k, hk with
    | 0, hk => simp only [List.getElem?_cons_zero, Option.some.injEq] at hk; subst hk; exact ⟨h3, hr⟩
    | k + 1, hk => simp at hk
  cases h with
  | agg cells vs h1 h2 h3 => exact ⟨h1, fun k y hk => ⟨h2 k y hk, h3 k y hk⟩⟩
  | tuple xs vs h1 h2 => simp [storable] at hs
  | yfn id st pend T ps asg body h1 => simp [storable] at hs
  | yfn_stale id v h1 => simp [storable] at hs
  | junk v => simp [storable] at hs
  | bool b => exact one (.bool b) rfl rfl rfl
  | int k n => exact one (.int k n) rfl rfl rfl
  | str s b h1 => exact one (.str s b h1) rfl rfl rfl
  | nilp => exact one .nilp rfl rfl rfl
  | ptr id off cs h1 => exact one (.ptr id off cs h1) rfl rfl rfl
  | eptr id g i off e sz els h1 h2 => exact one (.eptr id g i off e sz els h1 h2) rfl rfl rfl
  | eptr_stale id g i off a hs' => exact one (.eptr_stale id g i off a hs') rfl rfl rfl
  | fptr cells a vals h1 h2 h3 h4 h5 h6 => exact one (.fptr cells a vals h1 h2 h3 h4 h5 h6) rfl rfl rfl
  | nils => exact one .nils rfl rfl rfl
  | nilc a => exact one (.nilc a) rfl rfl rfl
  | fz_emp a c => exact one (.fz_emp a c) rfl rfl rfl
  | fz xs sz a c vals h1 h2 h3 h4 h5 h6 h7 h8 => exact one (.fz xs sz a c vals h1 h2 h3 h4 h5 h6 h7 h8) rfl rfl rfl
  | sl id g off len e sz els cap cur h1 h2 h3 h4 h5 h6 h7 => exact one (.sl id g off len e sz els cap cur h1 h2 h3 h4 h5 h6 h7) rfl rfl rfl
  | sl_emp id g e sz a h1 => exact one (.sl_emp id g e sz a h1) rfl rfl rfl
  | sl_stale id g off len a n c hs' => exact one (.sl_stale id g off len a n c hs') rfl rfl rfl
  | fn f first cap vf vc h1 h2 h3 h4 => exact one (.fn f first cap vf vc h1 h2 h3 h4) rfl rfl rfl
  | nilf => exact one .nilf rfl rfl rfl
  | iface t x v h1 => exact one (.iface t x v h1) rfl rfl rfl
  | nili => exact one .nili rfl rfl rfl

/-- What an operation comes to. -/
def Yield (P : Program) (s : Sem Value) (ρ : Nat → Nat) (H : List AObj) (w : World) (K : AV → List AObj → Prop) : Prop :=
  ∃ (v : Value) (w' : World) (x : AV) (H' : List AObj) (ρ' : Nat → Nat), s.run P w = .ok v w' ∧ K x H' ∧ Rep ρ' H' w' x v ∧ HeapOK ρ' H' w' ∧ Ext H.length ρ H w ρ' H' w'

theorem Yield.pure {P : Program} {s : Sem Value} {ρ : Nat → Nat} {H : List AObj} {w : World} {K : AV → List AObj → Prop} {v : Value} {x : AV}
    (hh : HeapOK ρ H w) (hr : s.run P w = .ok v w) (hk : K x H) (hx : Rep ρ H w x v) : Yield P s ρ H w K :=
  ⟨v, w, x, H, ρ, hr, hk, hx, hh, .refl _ ρ H w⟩

/-! ## Lookups in the abstract heap -/
def hget (H : List AObj) (id : Nat) : Option AObj := H[id]?
def hset (H : List AObj) (id : Nat) (o : AObj) : List AObj := H.set id o

theorem hget_app (H L : List AObj) (k : Nat) : hget (H ++ L) (H.length + k) = hget L k := by
  unfold hget
  rw [List.getElem?_append_right (by omega)]
  congr 1
  omega
theorem hget_app0 (H L : List AObj) : hget (H ++ L) H.length = hget L 0 := hget_app H L 0
theorem hget_zero (o : AObj) (L : List AObj) : hget (o :: L) 0 = some o := rfl
theorem hget_succ (o : AObj) (L : List AObj) (k : Nat) : hget (o :: L) (k + 1) = hget L k := rfl
theorem hget_old {H : List AObj} {id : Nat} {o : AObj} (h : hget H id = some o) (L : List AObj) : hget (H ++ L) id = some o := by
  unfold hget at *
  rw [List.getElem?_append_left (lt_of_get h)]
  exact h
theorem hset_app (H L : List AObj) (k : Nat) (o : AObj) : hset (H ++ L) (H.length + k) o = H ++ hset L k o := by
  unfold hset
  rw [List.set_append_right _ _ (by omega)]
  congr 2
  omega
theorem hset_app0 (H L : List AObj) (o : AObj) : hset (H ++ L) H.length o = H ++ hset L 0 o := hset_app H L 0 o
theorem hset_zero (o p : AObj) (L : List AObj) : hset (o :: L) 0 p = p :: L := rfl
theorem hset_succ (o p : AObj) (L : List AObj) (k : Nat) : hset (o :: L) (k + 1) p = o :: hset L k p := rfl

/-! ## load -/
def loadA (P : Program) (t : TypeId) (cs : List AV) (K : AV → Prop) : Prop :=
  match tc P t with
  | some (true, n) => n ≤ cs.length ∧ K (.agg (cs.take n))
  | some (false, _) =>
    match cs with
    | c :: _ => K c
    | [] => False
  | none => False

def kLoad (P : Program) (t : TypeId) (H : List AObj) (K : AV → List AObj → Prop) : AV → Prop
  | .ptr id off =>
    match hget H id with
    | some (.var cs) => loadA P t (cs.drop off) (fun v => K v H)
    | _ => False
  | .eptr id g i off =>
    match hget H id with
    | some (.arr g' e sz els) => g = g' ∧ i < els.length ∧ loadA P t ((look els i).cells.drop off) (fun v => K v H)
    | _ => False
  | .fptr cs => loadA P t cs (fun v => K v H)
  | _ => False

theorem loadA_run {P : Program} {t : TypeId} {cs : List AV} {K : AV → Prop} (h : loadA P t cs K) {ρ : Nat → Nat} {H : List AObj} {w : World} (a : Addr) (vals : Nat → Value)
    (h1 : ∀ (k : Nat) (x : AV), cs[k]? = some x → w.cell? (a.add k) = some (vals k)) (h2 : ∀ (k : Nat) (x : AV), cs[k]? = some x → (vals k).oneCell' = true)
    (h3 : ∀ (k : Nat) (x : AV), cs[k]? = some x → Rep ρ H w x (vals k)) :
    ∃ v x, (loadVar t a).run P w = .ok v w ∧ K x ∧ Rep ρ H w x v := by
  unfold loadA at h
  split at h
  · rename_i n htc
    obtain ⟨r1, r2⟩ := tc_isAgg htc w
    obtain ⟨hn, hK⟩ := h
    have hl := run_loadCells (P := P) w a n vals (fun j hj => h1 j _ (List.getElem?_eq_getElem (by omega)))
    refine ⟨.agg (List.map vals (List.range n)).toArray, _, by simp only [loadVar, Sem.run_bind, r1, r2, Result.andThen_ok, if_true, hl, Sem.run_pure], hK, ?_⟩
    refine .agg _ _ (by simp; omega) ?_ ?_
    · intro k x hk
      have hk' := lt_of_get hk
      simp only [List.length_take] at hk'
      rw [List.getElem?_take] at hk
      split at hk
      · have hkn : k < n := by assumption
        simpa [Array.getD_eq_getD_getElem?, hkn] using h2 k x hk
      · cases hk
    · intro k x hk
      rw [List.getElem?_take] at hk
      split at hk
      · have hkn : k < n := by assumption
        simpa [Array.getD_eq_getD_getElem?, hkn] using h3 k x hk
      · cases hk
  · rename_i n htc
    obtain ⟨r1, r2⟩ := tc_isAgg htc w
    split at h
    · rename_i c rest
      refine ⟨vals 0, c, ?_, h, h3 0 c rfl⟩
      have hc := h1 0 c rfl
      have ha : a.add 0 = a := rfl
      rw [ha] at hc
      simp only [loadVar, Sem.run_bind, r1, Result.andThen_ok, Bool.false_eq_true, if_false, run_load, hc]
    · exact h.elim
  · exact h.elim

theorem flat_get {els : List AV} {sz : Nat} (h : ∀ x, x ∈ els → x.cells.length = sz) {i j : Nat} (hi : i < els.length) (hj : j < sz) :
    (flat els)[i * sz + j]? = (look els i).cells[j]? := by
  induction els generalizing i with
  | nil => simp at hi
  | cons x els ih =>
    have hx : x.cells.length = sz := h x (by simp)
    simp only [flat, List.flatMap_cons]
    cases i with
    | zero =>
      simp only [look, Nat.zero_mul, Nat.zero_add]
      rw [List.getElem?_append_left (by omega)]
    | succ i =>
      simp only [look]
      rw [List.getElem?_append_right (by rw [hx, Nat.add_mul]; omega)]
      have := ih (fun y hy => h y (by simp [hy])) (i := i) (by simpa using hi)
      rw [← this, hx]
      congr 1
      rw [Nat.add_mul]
      omega

theorem flat_length {els : List AV} {sz : Nat} (h : ∀ x, x ∈ els → x.cells.length = sz) : (flat els).length = els.length * sz := by
  induction els with
  | nil => simp [flat]
  | cons x els ih =>
    have hx : x.cells.length = sz := h x (by simp)
    have hi := ih (fun y hy => h y (by simp [hy]))
    simp only [flat, List.flatMap_cons, List.length_append, hx, List.length_cons, Nat.add_mul] at *
    omega

theorem look_mem {els : List AV} {i : Nat} (hi : i < els.length) : look els i ∈ els := by
  rw [look_eq, List.getD_eq_getElem?_getD, List.getElem?_eq_getElem hi]
  exact List.getElem_mem hi

theorem add_off (b o k : Nat) : (⟨b, o, none⟩ : Addr).add k = ⟨b, o + k, none⟩ := by unfold Addr.add; split <;> simp_all

theorem cell_row {w : World} {b : Nat} {cur : Array Value} {e : TypeId} {fr : Nat × Nat} (h : w.heap[b]? = some (.cells cur e fr)) (k : Nat) : w.cell? ⟨b, k, none⟩ = cur[k]? := by
  simp [World.cell?, h]

theorem cell_row_getD {w : World} {b : Nat} {cur : Array Value} {e : TypeId} {fr : Nat × Nat} (h : w.heap[b]? = some (.cells cur e fr)) {k : Nat} (hk : k < cur.size) :
    w.cell? ⟨b, k, none⟩ = some (cur.getD k undef) := by
  rw [cell_row h, Array.getElem?_eq_getElem hk]
  simp [hk]

theorem kLoad_sound {P : Program} {t : TypeId} {H : List AObj} {K : AV → List AObj → Prop} {x : AV} {v : Value} {ρ : Nat → Nat} {w : World}
    (h : kLoad P t H K x) (hx : Rep ρ H w x v) (hh : HeapOK ρ H w) : Yield P (Instr.loadAt t v) ρ H w K := by
  cases hx <;> simp only [kLoad] at h <;> try (exact h.elim)
  case ptr id off cs hid =>
    rw [show hget H id = some (.var cs) from hid] at h
    simp only [] at h
    obtain ⟨cur, e, hc, hs, hcells⟩ := hh.var id cs hid
    obtain ⟨u, y, hrun, hK, hrep⟩ := loadA_run h (ρ := ρ) (H := H) (w := w) ⟨ρ id, off, none⟩ (fun k => cur.getD (off + k) undef)
      (fun k x hk => by
        rw [List.getElem?_drop] at hk
        have := lt_of_get hk
        rw [add_off]
        exact cell_row_getD hc (by omega))
      (fun k x hk => by rw [List.getElem?_drop] at hk; exact (hcells _ x hk).1)
      (fun k x hk => by rw [List.getElem?_drop] at hk; exact (hcells _ x hk).2)
    exact Yield.pure hh (by simpa [Instr.loadAt, Instr.sureAddr] using hrun) hK hrep
  case eptr id g i off e sz els hid hne =>
    rw [show hget H id = some (.arr g e sz els) from hid] at h
    simp only [] at h
    obtain ⟨_, hi, hl⟩ := h
    obtain ⟨hsz, hc⟩ := hh.arr id g e sz els hid
    obtain ⟨cur, cap, hc, hcap, hmx, hs, hcells⟩ := hc hne
    have hlook : (look els i).cells.length = sz := hsz _ (look_mem hi)
    have hfl := flat_length hsz
    have key : ∀ (k : Nat) (x : AV), ((look els i).cells.drop off)[k]? = some x → (flat els)[i * sz + off + k]? = some x ∧ i * sz + off + k < cur.size := by
      intro k x hk
      rw [List.getElem?_drop] at hk
      have hlt := lt_of_get hk
      have hg := flat_get hsz hi (j := off + k) (by omega)
      rw [hk] at hg
      refine ⟨by rw [← hg]; congr 1; omega, ?_⟩
      have hlt2 := lt_of_get hg
      rw [hs]
      have : els.length * sz ≤ cap * sz := Nat.mul_le_mul_right _ hcap
      omega
    obtain ⟨u, y, hrun, hK, hrep⟩ := loadA_run hl (ρ := ρ) (H := H) (w := w) ⟨ρ id, i * sz + off, none⟩ (fun k => cur.getD (i * sz + off + k) undef)
      (fun k x hk => by rw [add_off]; exact cell_row_getD hc (key k x hk).2)
      (fun k x hk => (hcells _ x (key k x hk).1).1)
      (fun k x hk => (hcells _ x (key k x hk).1).2)
    exact Yield.pure hh (by simpa [Instr.loadAt, Instr.sureAddr] using hrun) hK hrep
  case eptr_stale id g i off a hs =>
    rcases hs with ⟨g', e, sz, els, h1, h2⟩ | h1
    · rw [show hget H id = some (.arr g' e sz els) from h1] at h
      simp only [] at h
      omega
    · rw [show hget H id = some .dead from h1] at h
      exact h.elim
  case fptr cells a vals h1 h2 h3 h4 h5 h6 =>
    have ha : a = ⟨a.block, a.off, none⟩ := by cases a; simp_all
    obtain ⟨u, y, hrun, hK, hrep⟩ := loadA_run h (ρ := ρ) (H := H) (w := w) a vals
      (fun k x hk => by rw [ha, add_off]; exact h4 k x hk) h5 h6
    exact Yield.pure hh (by simpa [Instr.loadAt, Instr.sureAddr] using hrun) hK hrep

end Go.Proofs.Ytamoclnnakdiaaa.Abs
