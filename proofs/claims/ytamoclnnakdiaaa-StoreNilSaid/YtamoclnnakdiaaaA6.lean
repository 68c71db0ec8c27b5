/-
  Slices: parts of them, slices that are built, append.
  Conditions: none.
-/
import Derived.Test.YtamoclnnakdiaaaA5
namespace Go.Proofs.Ytamoclnnakdiaaa.Abs
open Go Go.RowKit
set_option linter.unusedVariables false
set_option linter.unusedSimpArgs false

/-! ## parts -/
def loOf : Option AV → Option Nat
  | none => some 0
  | some (.int _ n) => if 0 ≤ n then some n.toNat else none
  | _ => none

def hiOf (len : Nat) : Option AV → Option Nat
  | none => some len
  | some (.int _ n) => if 0 ≤ n then some n.toNat else none
  | _ => none

def kSlice (P : Program) (t : TypeId) (H : List AObj) (K : AV → List AObj → Prop) (x : AV) (lo hi mx : Option AV) : Prop :=
  match P.underlying t, x, mx with
  | some .string, .str s, none =>
    match loOf lo, hiOf s.length hi with
    | some l, some h => l ≤ h ∧ h ≤ s.length ∧ K (.str ((s.drop l).take (h - l))) H
    | _, _ => False
  | some (.slice _), .fz xs, none =>
    match te P t, loOf lo, hiOf xs.length hi with
    | some (_, sz), some l, some h => l ≤ h ∧ h ≤ xs.length ∧ (∀ y, y ∈ xs → y.cells.length = sz) ∧ K (.fz ((xs.drop l).take (h - l))) H
    | _, _, _ => False
  | some (.slice _), .sl id g off len, none =>
    match te P t, loOf lo, hiOf len hi, hget H id with
    | some (_, sz), some l, some h, some (.arr g' _ sz' els) => g = g' ∧ sz = sz' ∧ l ≤ h ∧ h ≤ len ∧ ((l = 0 ∨ l < len) ∧ K (.sl id g (off + l) (h - l)) H ∨ l = len ∧ K (.fz []) H)
    | _, _, _, _ => False
  | some (.slice _), x, some m =>
    match lo, hi, m with
    | none, some (.int _ 0), .int _ 0 => (rowOf H x).isSome = true ∧ (te P t).isSome = true ∧ K .nilc H
    | _, _, _ => False
  | _, _, _ => False

theorem bound_run {P : Program} {w : World} (k : IntKind) (n : Int) (y : Nat) (code : BoundsCode) (h0 : 0 ≤ n) (h1 : n.toNat ≤ y) : (Instr.sliceBound (.int k n) y code).run P w = .ok n.toNat w := by
  have h : 0 ≤ n ∧ n ≤ (y : Int) := ⟨h0, by omega⟩
  simp [Instr.sliceBound, asIntOf, h]

/-- Bounds without a third. -/
theorem bounds_run {P : Program} {ρ : Nat → Nat} {H : List AObj} {w : World} {lo hi : Option AV} {vlo vhi : Option Value} {l h : Nat} (b : Bool) (len cap : Nat)
    (hlo : ∀ x, lo = some x → ∃ v, vlo = some v ∧ Rep ρ H w x v) (nlo : lo = none → vlo = none)
    (hhi : ∀ x, hi = some x → ∃ v, vhi = some v ∧ Rep ρ H w x v) (nhi : hi = none → vhi = none)
    (hl : loOf lo = some l) (hh : hiOf len hi = some h) (h1 : l ≤ h) (h2 : h ≤ len) (h3 : len ≤ cap) :
    (Instr.sliceBounds b len cap vlo vhi none).run P w = .ok (l, h, cap) w := by
  have hi' : ∀ (k : World → Prop), True := fun _ => trivial
  unfold Instr.sliceBounds
  cases hi with
  | none =>
    rw [nhi rfl]
    simp only [hiOf, Option.some.injEq] at hh
    subst hh
    cases lo with
    | none =>
      rw [nlo rfl]
      simp only [loOf, Option.some.injEq] at hl
      subst hl
      simp
    | some x =>
      obtain ⟨v, rfl, hv⟩ := hlo x rfl
      cases x <;> simp only [loOf] at hl <;> try (cases hl; done)
      rename_i k n
      split at hl
      · rename_i h0
        cases hl
        rw [hv.inv_int]
        simp [bound_run k n len _ h0 h1]
      · cases hl
  | some y =>
    obtain ⟨u, rfl, hu⟩ := hhi y rfl
    cases y <;> simp only [hiOf] at hh <;> try (cases hh; done)
    rename_i k n
    split at hh
    · rename_i h0
      cases hh
      rw [hu.inv_int]
      cases lo with
      | none =>
        rw [nlo rfl]
        simp only [loOf, Option.some.injEq] at hl
        subst hl
        simp [bound_run k n cap _ h0 (by omega)]
      | some x =>
        obtain ⟨v, rfl, hv⟩ := hlo x rfl
        cases x <;> simp only [loOf] at hl <;> try (cases hl; done)
        rename_i k' n'
        split at hl
        · rename_i h0'
          cases hl
          rw [hv.inv_int]
          simp [bound_run k n cap _ h0 (by omega), bound_run k' n' n.toNat _ h0' h1]
        · cases hl
    · cases hh

theorem rep_fz_part {ρ : Nat → Nat} {H : List AObj} {w : World} {xs : List AV} {sz : Nat} {a : Addr} {c : Nat} {vals : Nat → Value} (g1 : a.spot = none) (g2 : a.block < w.heap.size) (g3 : ¬ Mu ρ H a.block) (g4 : xs.length ≤ c)
    (g5 : ∀ x, x ∈ xs → x.cells.length = sz) (g6 : ∀ (k : Nat) (x : AV), (flat xs)[k]? = some x → w.cell? ⟨a.block, a.off + k, none⟩ = some (vals k)) (g7 : ∀ (k : Nat) (x : AV), (flat xs)[k]? = some x → (vals k).oneCell' = true)
    (g8 : ∀ (k : Nat) (x : AV), (flat xs)[k]? = some x → Rep ρ H w x (vals k)) {l h : Nat} (h1 : l ≤ h) (h2 : h ≤ xs.length) (c' : Nat) (hc : h - l ≤ c') :
    Rep ρ H w (.fz ((xs.drop l).take (h - l))) (.slice (some ⟨a.block, a.off + l * sz, none⟩) (h - l) c') := by
  have hlen : ((xs.drop l).take (h - l)).length = h - l := by simp; omega
  have hfl : ∀ (k : Nat) (x : AV), (flat ((xs.drop l).take (h - l)))[k]? = some x → (flat xs)[l * sz + k]? = some x := by
    intro k x hk
    have hx : xs = xs.take l ++ ((xs.drop l).take (h - l) ++ (xs.drop l).drop (h - l)) := by rw [List.take_append_drop, List.take_append_drop]
    have hpre : (flat (xs.take l)).length = l * sz := by
      rw [flat_length (fun z hz => g5 z (List.mem_of_mem_take hz)), List.length_take, Nat.min_eq_left (by omega)]
    have hfx : flat xs = flat (xs.take l) ++ (flat ((xs.drop l).take (h - l)) ++ flat ((xs.drop l).drop (h - l))) := by
      conv => lhs; rw [hx]
      simp only [flat, List.flatMap_append]
    rw [hfx, List.getElem?_append_right (by omega), hpre, show l * sz + k - l * sz = k by omega, List.getElem?_append_left (lt_of_get hk)]
    exact hk
  have key : Rep ρ H w (.fz ((xs.drop l).take (h - l))) (.slice (some ⟨a.block, a.off + l * sz, none⟩) ((xs.drop l).take (h - l)).length c') := by
    refine .fz _ sz _ c' (fun k => vals (l * sz + k)) rfl g2 g3 (by omega) (fun x hx => g5 x (List.mem_of_mem_drop (List.mem_of_mem_take hx))) ?_ ?_ ?_
    · intro k x hk
      have := g6 _ x (hfl k x hk)
      rw [← Nat.add_assoc] at this
      exact this
    · intro k x hk; exact g7 _ x (hfl k x hk)
    · intro k x hk; exact g8 _ x (hfl k x hk)
  rw [hlen] at key
  exact key

theorem kSlice_sound {P : Program} {t : TypeId} {H : List AObj} {K : AV → List AObj → Prop} {x : AV} {v : Value} {lo hi mx : Option AV} {vlo vhi vmx : Option Value} {ρ : Nat → Nat} {w : World}
    (h : kSlice P t H K x lo hi mx) (hx : Rep ρ H w x v)
    (hlo : ∀ x, lo = some x → ∃ v, vlo = some v ∧ Rep ρ H w x v) (nlo : lo = none → vlo = none)
    (hhi : ∀ x, hi = some x → ∃ v, vhi = some v ∧ Rep ρ H w x v) (nhi : hi = none → vhi = none)
    (hmx : ∀ x, mx = some x → ∃ v, vmx = some v ∧ Rep ρ H w x v) (nmx : mx = none → vmx = none) (hh : HeapOK ρ H w) :
    Yield P (Instr.sliceAt t v vlo vhi vmx) ρ H w K := by
  unfold kSlice at h
  split at h
  · rename_i s hu
    rw [nmx rfl]
    split at h
    · rename_i l h' hl hh'
      obtain ⟨h1, h2, hK⟩ := h
      obtain ⟨b, rfl, rfl⟩ := hx.inv_str
      have hs : b.size = b.data.toList.length := by simp
      refine Yield.pure hh (v := .string (b.extract l h')) ?_ hK (.str _ _ ?_)
      · have hb := bounds_run (P := P) false b.size b.size hlo nlo hhi nhi hl (by rw [hs]; exact hh') h1 (by rw [hs]; exact h2) (Nat.le_refl _)
        simp only [Instr.sliceAt, Instr.slice, Sem.run_bind, run_underlying hu, Result.andThen_ok, hb]
        simp [hb]
      · simp [ByteArray.data_extract, List.extract_eq_take_drop]
    · exact h.elim
  · rename_i e xs hu
    rw [nmx rfl]
    split at h
    · rename_i e' sz l h' hte hl hh'
      obtain ⟨h1, h2, h3, hK⟩ := h
      obtain ⟨hu', i, hi', hsz⟩ := te_spec hte
      rw [hu] at hu'
      cases hu'
      have hso : (sizeOf e).run P w = .ok sz w := by simp [sizeOf, typeInfo, hi', hsz]
      cases hx with
      | fz_emp a c =>
        have hb := bounds_run (P := P) true 0 c hlo nlo hhi nhi hl hh' h1 (by simpa using h2) (Nat.zero_le _)
        obtain rfl : h' = 0 := by simpa using h2
        obtain rfl : l = 0 := by omega
        refine Yield.pure hh (v := .slice (if c = 0 then a else a.map (·.add (0 * sz))) 0 c) ?_ (x := .fz []) (by simpa using hK) (.fz_emp _ _)
        simp only [Instr.sliceAt, Instr.slice, Sem.run_bind, run_underlying hu, Result.andThen_ok, hb, hso]
        simp
      | fz _ sz' a c vals g1 g2 g3 g4 g5 g6 g7 g8 =>
        have hb := bounds_run (P := P) true xs.length c hlo nlo hhi nhi hl hh' h1 h2 g4
        refine Yield.pure hh (v := .slice (if c = l then some a else some (a.add (l * sz))) (h' - l) (c - l)) ?_ hK ?_
        · simp only [Instr.sliceAt, Instr.slice, Sem.run_bind, run_underlying hu, Result.andThen_ok, hb, hso]
          simp
        · split
          · rename_i hcl
            have h0 : h' - l = 0 := by omega
            rw [h0, List.take_zero]
            exact .fz_emp _ _
          · have ha : a = ⟨a.block, a.off, none⟩ := by cases a; simp_all
            rw [ha, add_off]
            by_cases hne : xs = []
            · subst hne
              have h0 : h' - l = 0 := by simp at h2; omega
              rw [h0, List.take_zero]
              exact .fz_emp _ _
            · obtain ⟨y, hy⟩ := List.exists_mem_of_ne_nil xs hne
              have hs2 : sz' = sz := by rw [← g5 y hy, h3 y hy]
              subst hs2
              exact rep_fz_part g1 g2 g3 g4 g5 g6 g7 g8 h1 h2 (c - l) (by omega)
    · exact h.elim
  · rename_i e id g off len hu
    rw [nmx rfl]
    split at h
    · rename_i e' sz l h' g' e2 sz' els hte hl hh' hid
      obtain ⟨rfl, rfl, h1, h2, hK⟩ := h
      obtain ⟨hu', i, hi', hsz⟩ := te_spec hte
      rw [hu] at hu'
      cases hu'
      have hso : (sizeOf e).run P w = .ok sz w := by simp [sizeOf, typeInfo, hi', hsz]
      unfold hget at hid
      cases hx with
      | sl _ _ _ _ e1 sz1 els1 cap cur k1 k2 k3 k4 k5 k6 k7 =>
        rw [k1] at hid
        cases hid
        have hb := bounds_run (P := P) true len cap hlo nlo hhi nhi hl hh' h1 h2 k4
        rcases hK with ⟨hlt, hK⟩ | ⟨hlt, hK⟩
        · refine Yield.pure hh (v := .slice (some ⟨ρ id, (off + l) * sz, none⟩) (h' - l) (cap - l)) ?_ hK ?_
          · simp only [Instr.sliceAt, Instr.slice, Sem.run_bind, run_underlying hu, Result.andThen_ok, hb, hso, Sem.run_pure]
            congr 2
            split
            · rename_i hcl
              rcases hlt with rfl | hlt
              · simp
              · omega
            · simp only [Option.map_some]
              rw [add_off, Nat.add_mul]
          · exact .sl id g (off + l) (h' - l) e2 sz els (cap - l) cur k1 k2 (by omega) (by omega) (by omega) k6 (by rw [k7]; congr 1; omega)
        · have h0 : h' - l = 0 := by omega
          refine Yield.pure hh (v := .slice (if cap = l then some ⟨ρ id, off * sz, none⟩ else some ((⟨ρ id, off * sz, none⟩ : Addr).add (l * sz))) (h' - l) (cap - l)) ?_ hK (by rw [h0]; exact .fz_emp _ _)
          simp only [Instr.sliceAt, Instr.slice, Sem.run_bind, run_underlying hu, Result.andThen_ok, hb, hso, Sem.run_pure]
          rfl
      | sl_emp _ _ e1 sz1 a k1 =>
        obtain rfl : h' = 0 := by omega
        obtain rfl : l = 0 := by omega
        have hb := bounds_run (P := P) true 0 0 hlo nlo hhi nhi hl hh' h1 h2 (Nat.le_refl _)
        rcases hK with ⟨hlt, hK⟩ | ⟨hlt, hK⟩
        · refine Yield.pure hh (v := .slice a 0 0) ?_ hK (.sl_emp id g e1 sz1 a k1)
          simp only [Instr.sliceAt, Instr.slice, Sem.run_bind, run_underlying hu, Result.andThen_ok, hb, hso]
          simp
        · refine Yield.pure hh (v := .slice a 0 0) ?_ hK (.fz_emp _ _)
          simp only [Instr.sliceAt, Instr.slice, Sem.run_bind, run_underlying hu, Result.andThen_ok, hb, hso]
          simp
      | sl_stale _ _ _ _ a n c hs =>
        rcases hs with ⟨g2, e2, sz2, els2, q1, q2⟩ | q1
        · rw [q1] at hid; cases hid; omega
        · rw [q1] at hid; cases hid
    · exact h.elim
  · obtain ⟨e, hu⟩ : ∃ e, P.underlying t = some (.slice e) := ⟨_, by assumption⟩
    split at h
    · rename_i k k'
      obtain ⟨h1, h2, hK⟩ := h
      obtain ⟨vh, rfl, hvh⟩ := hhi _ rfl
      obtain ⟨vm, rfl, hvm⟩ := hmx _ rfl
      rw [nlo rfl, hvh.inv_int, hvm.inv_int]
      obtain ⟨ys, hro⟩ := Option.isSome_iff_exists.1 h1
      obtain ⟨a, c, rfl, _⟩ := rowOf_read hx hro hh
      obtain ⟨⟨e', sz⟩, hte⟩ := Option.isSome_iff_exists.1 h2
      obtain ⟨hu', i, hi', hsz⟩ := te_spec hte
      rw [hu] at hu'
      cases hu'
      have hso : (sizeOf e).run P w = .ok sz w := by simp [sizeOf, typeInfo, hi', hsz]
      refine Yield.pure hh (v := .slice a 0 0) ?_ hK (.nilc a)
      simp [Instr.sliceAt, Instr.slice, run_underlying hu, Instr.sliceBounds, Instr.sliceBound, asIntOf, hso]
    · exact h.elim
  · exact h.elim

/-! ## slices that are built -/
def fillE (sz : Nat) : List AV → List (Nat × AV) → Option (List AV)
  | els, [] => some els
  | els, (i, x) :: rest => if i < els.length ∧ storable x = true ∧ x.cells.length = sz then fillE sz (els.set i x) rest else none

/-- A new slice of these elements; one of none has no room. -/
def mkFz : List AV → AV
  | [] => .nilc
  | x :: xs => .fz (x :: xs)

def kBuildSlice (P : Program) (t : TypeId) (n : Nat) (H : List AObj) (K : AV → List AObj → Prop) (parts : List (Nat × AV)) : Prop :=
  match te P t with
  | some (e, sz) =>
    match zeroV P e with
    | some z => z.cells.length = sz ∧ storable z = true ∧ n * sz ≤ 16777216 ∧ 0 < sz ∧
      (match fillE sz (List.replicate n z) parts with
       | some els => K (mkFz els) H
       | none => False)
    | none => False
  | none => False

theorem spl_all {α : Type} (l new : List α) (h : new.length = l.length) : spl l 0 new = new := by
  unfold spl
  rw [List.take_zero, List.nil_append, List.drop_eq_nil_of_le (by omega), List.append_nil]

theorem fillE_run {ρ : Nat → Nat} {H : List AObj} {w : World} {sz : Nat} : ∀ (parts : List (Nat × AV)) (vparts : List (Nat × Value)) (els out : List AV) (vs : Array Value), fillE sz els parts = some out →
    (∀ x, x ∈ els → x.cells.length = sz) → CellsOK ρ H w (flat els) vs → vparts.length = parts.length →
    (∀ (k : Nat) (i : Nat) (x : AV), parts[k]? = some (i, x) → ∃ v, vparts[k]? = some (i, v) ∧ Rep ρ H w x v) →
    ∃ us, Instr.fill (fun i => some (i * sz, sz)) vs vparts = some us ∧ CellsOK ρ H w (flat out) us ∧ (∀ x, x ∈ out → x.cells.length = sz) ∧ out.length = els.length := by
  intro parts
  induction parts with
  | nil =>
    intro vparts els out vs h he hc hl _
    cases vparts with
    | nil => simp only [fillE, Option.some.injEq] at h; subst h; exact ⟨vs, rfl, hc, he, rfl⟩
    | cons _ _ => simp at hl
  | cons p parts ih =>
    intro vparts els out vs h he hc hl hr
    obtain ⟨i, x⟩ := p
    cases vparts with
    | nil => simp at hl
    | cons q vparts =>
      obtain ⟨v, hv, hx⟩ := hr 0 i x rfl
      simp only [List.getElem?_cons_zero, Option.some.injEq] at hv
      subst hv
      simp only [fillE] at h
      split at h
      · rename_i hcond
        obtain ⟨hi, hs, hsz⟩ := hcond
        have hcv := (hx.cells hs).1
        have hlook : (look els i).cells.length = sz := he _ (look_mem hi)
        have hfl := flat_length he
        have hmul : (i + 1) * sz ≤ els.length * sz := Nat.mul_le_mul_right _ hi
        rw [Nat.add_mul] at hmul
        have hfit : i * sz + x.cells.length ≤ (flat els).length := by omega
        have hc' := hc.spl hx hs hfit
        have hset := flat_set he (i := i) (off := 0) (y := x) (new := x.cells) hi (by omega) (by rw [spl_all _ _ (by omega)])
        rw [Nat.add_zero] at hset
        rw [← hset] at hc'
        have he' : ∀ z, z ∈ els.set i x → z.cells.length = sz := by
          intro z hz
          rcases List.mem_or_eq_of_mem_set hz with hz | hz
          · exact he z hz
          · rw [hz]; exact hsz
        obtain ⟨us, hu, hcu, heu, hlu⟩ := ih vparts _ out _ h he' hc' (by simpa using hl) (fun k j y hk => hr (k + 1) j y hk)
        refine ⟨us, ?_, hcu, heu, by rw [hlu]; simp⟩
        have hnot : ¬ ((v.cells.size ≠ sz || i * sz + v.cells.size > vs.size) = true) := by
          have := hc.1
          simp
          omega
        have hfold := foldl_spl (i * sz) v.cells.toList 0 vs (by rw [Array.length_toList]; have := hc.1; omega)
        rw [Nat.add_zero] at hfold
        simp only [Instr.fill, hnot, if_false]
        rw [← hu, ← hfold, ← Array.foldl_toList, Array.toList_zipIdx]
        rfl
      · cases h

theorem zeroRow {ρ : Nat → Nat} {H : List AObj} {w : World} {z : AV} {zv : Value} {sz : Nat} (hz : Rep ρ H w z zv) (hs : storable z = true) (hsz : z.cells.length = sz) (h0 : 0 < sz) (n : Nat) :
    CellsOK ρ H w (flat (List.replicate n z)) ((Array.range (n * sz)).map (zv.cells[· % zv.cells.size]!)) := by
  obtain ⟨hvs, hcells⟩ := hz.cells hs
  have hall : ∀ x, x ∈ List.replicate n z → x.cells.length = sz := fun x hx => by rw [List.eq_of_mem_replicate hx]; exact hsz
  have hfl := flat_length hall
  rw [List.length_replicate] at hfl
  refine ⟨by simp [hfl], ?_⟩
  intro k x hk
  have hlt := lt_of_get hk
  rw [hfl] at hlt
  have hq : k / sz < n := Nat.div_lt_of_lt_mul (by rw [Nat.mul_comm]; exact hlt)
  have hk2 : k = k / sz * sz + k % sz := by rw [Nat.mul_comm]; exact (Nat.div_add_mod k sz).symm
  have hr : k % sz < sz := Nat.mod_lt _ h0
  have hg := flat_get hall (i := k / sz) (j := k % sz) (by rw [List.length_replicate]; exact hq) hr
  rw [← hk2, hk] at hg
  have hlook : look (List.replicate n z) (k / sz) = z := by
    have := look_mem (els := List.replicate n z) (i := k / sz) (by rw [List.length_replicate]; exact hq)
    exact List.eq_of_mem_replicate this
  rw [hlook] at hg
  have := hcells _ x hg.symm
  have he : ((Array.range (n * sz)).map (zv.cells[· % zv.cells.size]!)).getD k undef = zv.cells.getD (k % sz) undef := by
    have h1 : k % sz < zv.cells.size := by omega
    simp only [Array.getD_eq_getD_getElem?, Array.getElem?_map, Array.getElem?_range, hlt, if_true, Option.map_some, Option.getD_some, hvs, hsz]
    rw [getElem!_pos zv.cells (k % sz) h1, Array.getElem?_eq_getElem h1]
    rfl
  rw [he]
  exact this

theorem kBuildSlice_sound {P : Program} {t : TypeId} {n : Nat} {H : List AObj} {K : AV → List AObj → Prop} {ρ : Nat → Nat} {w : World} {T : List AV} {a : Act} (parts : Array (Nat × Operand))
    (h : kBuildSlice P t n H K (parts.toList.map fun p => (p.1, ev T p.2))) (hT : RepL ρ H w T a.tmps) (hh : HeapOK ρ H w) :
    Yield P (Instr.buildSlice t n (parts.map fun (i, x) => (i, a.eval x))) ρ H w K := by
  unfold kBuildSlice at h
  cases hte : te P t with
  | none => rw [hte] at h; exact h.elim
  | some es =>
    obtain ⟨e, sz⟩ := es
    rw [hte] at h
    simp only [] at h
    cases hz : zeroV P e with
    | none => rw [hz] at h; exact h.elim
    | some z =>
      rw [hz] at h
      simp only [] at h
      obtain ⟨hzs, hst, hn, h0, h⟩ := h
      obtain ⟨hu, i, hi, hsz⟩ := te_spec hte
      have hso : (sizeOf e).run P w = .ok sz w := by simp [sizeOf, typeInfo, hi, hsz]
      obtain ⟨zv, hzr, hzrep⟩ := zeroV_run hz ρ H w
      cases hf : fillE sz (List.replicate n z) (parts.toList.map fun p => (p.1, ev T p.2)) with
      | none => rw [hf] at h; exact h.elim
      | some els =>
        rw [hf] at h
        simp only [] at h
        have hall : ∀ x, x ∈ List.replicate n z → x.cells.length = sz := fun x hx => by rw [List.eq_of_mem_replicate hx]; exact hzs
        obtain ⟨us, hus, hcu, heu, hlu⟩ := fillE_run (ρ := ρ) (H := H) (w := w) _ (parts.toList.map fun p => (p.1, a.eval p.2)) _ _ _ hf hall (zeroRow hzrep hst hzs h0 n) (by simp)
          (by
            intro k j x hk
            rw [List.getElem?_map] at hk
            cases hp : parts.toList[k]? with
            | none => rw [hp] at hk; cases hk
            | some p =>
              rw [hp] at hk
              simp only [Option.map_some, Option.some.injEq, Prod.mk.injEq] at hk
              obtain ⟨rfl, rfl⟩ := hk
              exact ⟨a.eval p.2, by rw [List.getElem?_map, hp]; rfl, rep_ev hT _⟩)
        rw [List.length_replicate] at hlu
        have hlist : (parts.map fun (i, x) => (i, a.eval x)).toList = parts.toList.map fun p => (p.1, a.eval p.2) := by simp
        -- the row is new: nothing is known to it but what it holds
        have hext : Ext H.length ρ H w ρ H (w.alloc (.cells us e)) := by
          refine ⟨rfl, rfl, rfl, by simp, fun b hb _ => heap_push_old w _ hb, fun b hb => .inl hb, ?_⟩
          intro id o _ ho
          refine ⟨o, ho, ?_⟩
          cases o with
          | var cs => exact .var cs cs rfl rfl
          | arr g e1 sz1 els1 =>
            refine .arr g e1 sz1 els1 els1 rfl rfl (fun _ cur e2 hc => ⟨cur, ?_, rfl⟩)
            have hlt : ρ id < w.heap.size := by
              rcases Nat.lt_or_ge (ρ id) w.heap.size with h' | h'
              · exact h'
              · simp [Array.getElem?_eq_none h'] at hc
            rw [heap_push_old w _ hlt]
            exact hc
          | loop st pend T1 ps asg body => exact .loop st st pend pend T1 ps asg body rfl
          | dead => exact .dead
        have hh' : HeapOK ρ H (w.alloc (.cells us e)) := by
          refine ⟨hh.inj, ?_, ?_, ?_⟩
          · intro id cs hid
            obtain ⟨cur, e1, h1, h2, h3⟩ := hh.var id cs hid
            exact ⟨cur, e1, by rw [heap_push_old w _ (hh.lt ⟨id, _, hid, trivial, rfl⟩)]; exact h1, h2, fun k x hk => ⟨(h3 k x hk).1, (h3 k x hk).2.mono hext⟩⟩
          · intro id g e1 sz1 els1 hid
            obtain ⟨h1, h2⟩ := hh.arr id g e1 sz1 els1 hid
            refine ⟨h1, fun hne => ?_⟩
            obtain ⟨cur, cap, h3, h4, h5, h6, h7⟩ := h2 hne
            exact ⟨cur, cap, by rw [heap_push_old w _ (hh.lt ⟨id, _, hid, hne, rfl⟩)]; exact h3, h4, h5, h6, fun k x hk => ⟨(h7 k x hk).1, (h7 k x hk).2.mono hext⟩⟩
          · intro id st pend T1 ps asg body hid
            obtain ⟨fn, D, tmps, h1, h2, h3⟩ := hh.loop id st pend T1 ps asg body hid
            exact ⟨fn, D, tmps, by rw [heap_push_old w _ (hh.lt ⟨id, _, hid, trivial, rfl⟩)]; exact h1, h2, fun k x hk => (h3 k x hk).mono hext⟩
        refine ⟨.slice (some ⟨w.heap.size, 0, none⟩) n n, w.alloc (.cells us e), mkFz els, H, ρ, ?_, h, ?_, hh', hext⟩
        · have hle : ¬ (n * sz > 2 ^ 24) := by omega
          by_cases hz0 : n * sz = 0
          · have hr0 : Array.range (n * sz) = #[] := by rw [hz0]; rfl
            rw [hr0] at hus
            simp only [Instr.buildSlice, Sem.run_bind, run_underlying hu, Result.andThen_ok, hso, Sem.run_ite, if_neg hle, if_pos hz0, Sem.run_pure, hr0, hlist]
            rw [Array.map_empty] at hus ⊢
            rw [hus]
            simp [newRow]
          · simp only [Instr.buildSlice, Sem.run_bind, run_underlying hu, Result.andThen_ok, hso, Sem.run_ite, if_neg hle, if_neg hz0, Sem.run_pure, hzr, hlist]
            rw [hus]
            simp [newRow]
        · have hsz2 : els.length = n := hlu
          rw [← hsz2]
          have hmk : ∀ {v : Value}, (els = [] → ∃ a, v = .slice a 0 0) → Rep ρ H (w.alloc (.cells us e)) (.fz els) v → Rep ρ H (w.alloc (.cells us e)) (mkFz els) v := by
            intro v h0 hr
            cases els with
            | nil => obtain ⟨a, rfl⟩ := h0 rfl; exact .nilc a
            | cons x xs => exact hr
          refine hmk (fun h0 => ⟨_, by rw [h0]; rfl⟩) ?_
          refine .fz els sz _ _ (fun k => us.getD k undef) rfl (by simp) (fun hm => ?_) (Nat.le_refl _) heu ?_ ?_ ?_
          · obtain ⟨id, o, ho, hl, hb⟩ := hm
            have := hh.lt ⟨id, o, ho, hl, rfl⟩
            simp only [] at hb
            omega
          · intro k x hk
            have hlt := lt_of_get hk
            rw [Nat.zero_add]
            exact cell_row_getD (heap_push_new w _) (by have := hcu.1; omega)
          · intro k x hk; exact (hcu.2 k x hk).1
          · intro k x hk; exact (hcu.2 k x hk).2.mono hext

end Go.Proofs.Ytamoclnnakdiaaa.Abs
