/-
  Operations, continued: unary, conversions, tuples, interfaces, functions, structs and slices that are built, slicing, len, append.
  Conditions: none.
-/
import Derived.Test.YtamoclnnakdiaaaA4
namespace Go.Proofs.Ytamoclnnakdiaaa.Abs
open Go Go.RowKit
set_option linter.unusedVariables false
set_option linter.unusedSimpArgs false

def kUn (op : UnOp) (H : List AObj) (K : AV → List AObj → Prop) (x : AV) : Prop :=
  match op, x with
  | .not, .bool b => K (.bool (!b)) H
  | .neg, .int k n => K (.int k (k.wrap (0 - n))) H
  | _, _ => False

theorem kUn_sound {P : Program} {op : UnOp} {H : List AObj} {K : AV → List AObj → Prop} {x : AV} {v : Value} {ρ : Nat → Nat} {w : World}
    (h : kUn op H K x) (hx : Rep ρ H w x v) (hh : HeapOK ρ H w) : Yield P (Op.unary op v) ρ H w K := by
  unfold kUn at h
  split at h
  · obtain rfl := hx.inv_bool
    exact Yield.pure hh (by simp [Op.unary]) h (.bool _)
  · obtain rfl := hx.inv_int
    exact Yield.pure hh (by simp [Op.unary, Op.intArith]) h (.int _ _)
  · exact h.elim

def kConv (P : Program) (src dst : TypeId) (H : List AObj) (K : AV → List AObj → Prop) (x : AV) : Prop :=
  match P.underlying src, P.underlying dst, x with
  | some _, some (.int k), .int _ n => K (.int k (k.wrap n)) H
  | some _, some .string, .str s => K (.str s) H
  | _, _, _ => False

theorem kConv_sound {P : Program} {src dst : TypeId} {H : List AObj} {K : AV → List AObj → Prop} {x : AV} {v : Value} {ρ : Nat → Nat} {w : World}
    (h : kConv P src dst H K x) (hx : Rep ρ H w x v) (hh : HeapOK ρ H w) : Yield P (convert src dst v) ρ H w K := by
  unfold kConv at h
  split at h
  · rename_i d k k' n h1 h2
    obtain rfl := hx.inv_int
    refine Yield.pure hh ?_ h (.int _ _)
    simp only [convert, Sem.run_bind, run_underlying h1, run_underlying h2, Result.andThen_ok, Conv.intToInt]
    cases d <;> simp
  · rename_i d s h1 h2
    obtain ⟨b, rfl, rfl⟩ := hx.inv_str
    refine Yield.pure hh (v := .string b) ?_ h (.str _ _ rfl)
    simp only [convert, Sem.run_bind, run_underlying h1, run_underlying h2, Result.andThen_ok]
    cases d <;> simp
  · exact h.elim

def kExtract (i : Nat) (H : List AObj) (K : AV → List AObj → Prop) (x : AV) : Prop :=
  match x with
  | .tuple vs => i < vs.length ∧ K (look vs i) H
  | _ => False

theorem kExtract_sound {P : Program} {i : Nat} {H : List AObj} {K : AV → List AObj → Prop} {x : AV} {v : Value} {ρ : Nat → Nat} {w : World}
    (h : kExtract i H K x) (hx : Rep ρ H w x v) (hh : HeapOK ρ H w) : Yield P (Instr.extract v i) ρ H w K := by
  unfold kExtract at h
  split at h
  · rename_i vs
    obtain ⟨hi, hK⟩ := h
    cases hx with
    | tuple _ us h1 h2 =>
      have hlt : i < us.size := by omega
      refine Yield.pure hh (v := us.getD i undef) ?_ hK ?_
      · simp [Instr.extract, hlt]
      · rw [look_eq, List.getD_eq_getElem?_getD, List.getElem?_eq_getElem hi]
        exact h2 i _ (List.getElem?_eq_getElem hi)
  · exact h.elim

/-- Is a type no interface? -/
def ti (P : Program) (t : TypeId) : Bool :=
  match P.underlying t with
  | some (.interface _) => false
  | some _ => true
  | none => false

def kMkIface (P : Program) (t : TypeId) (H : List AObj) (K : AV → List AObj → Prop) (x : AV) : Prop := ti P t = true ∧ K (.iface t x) H

theorem kMkIface_sound {P : Program} {t : TypeId} {H : List AObj} {K : AV → List AObj → Prop} {x : AV} {v : Value} {ρ : Nat → Nat} {w : World}
    (h : kMkIface P t H K x) (hx : Rep ρ H w x v) (hh : HeapOK ρ H w) : Yield P (Instr.makeInterface t v) ρ H w K := by
  obtain ⟨h1, h2⟩ := h
  refine Yield.pure hh ?_ h2 (.iface t x v hx)
  unfold ti at h1
  split at h1
  · cases h1
  · rename_i d hne hu
    simp only [Instr.makeInterface, Sem.run_bind, run_underlying hu, Result.andThen_ok]
    cases d <;> first | rfl | (exfalso; exact hne _ rfl)
  · cases h1

theorem repL_map {ρ : Nat → Nat} {H : List AObj} {w : World} {T : List AV} {a : Act} (h : RepL ρ H w T a.tmps) (l : Array Operand) :
    RepL ρ H w (l.toList.map (ev T)) (l.map a.eval) := by
  refine ⟨by simp, ?_⟩
  intro k x hk
  rw [List.getElem?_map] at hk
  cases hl : l.toList[k]? with
  | none => rw [hl] at hk; cases hk
  | some o =>
    rw [hl] at hk
    simp only [Option.map_some, Option.some.injEq] at hk
    subst hk
    rw [Array.getElem?_toList] at hl
    simp only [Array.getD_eq_getD_getElem?, Array.getElem?_map, hl, Option.map_some, Option.getD_some]
    exact rep_ev h o

/-! ## structs that are built -/
/-- A struct's zero cells, and where its parts lie. -/
def tb (P : Program) (t : TypeId) : Option (List AV × List (Nat × Nat)) :=
  match P.info? t, P.underlying t with
  | some i, some (.struct fs) =>
    match i.zero with
    | some (.agg cs) =>
      match cv (.agg cs), fs.toList.mapM (fun f => (P.info? f.type).map (fun j => (f.offset, j.size))) with
      | .agg zs, some l => some (zs, l)
      | _, _ => none
    | _ => none
  | some i, some (.array n e) =>
    match i.zero, P.info? e with
    | some (.agg cs), some j =>
      match cv (.agg cs) with
      | .agg zs => some (zs, (List.range n).map fun k => (k * j.size, j.size))
      | _ => none
    | _, _ => none
  | _, _ => none

def fillA (places : List (Nat × Nat)) : List AV → List (Nat × AV) → Option (List AV)
  | cells, [] => some cells
  | cells, (i, x) :: rest =>
    match places[i]? with
    | some (off, size) => if storable x = true ∧ x.cells.length = size ∧ off + size ≤ cells.length then fillA places (spl cells off x.cells) rest else none
    | none => none

def kBuild (P : Program) (t : TypeId) (H : List AObj) (K : AV → List AObj → Prop) (parts : List (Nat × AV)) : Prop :=
  match tb P t with
  | some (zs, places) =>
    match fillA places zs parts with
    | some cells => K (.agg cells) H
    | none => False
  | none => False

theorem foldl_spl (off : Nat) (vs : List Value) : ∀ (n : Nat) (cs : Array Value), off + n + vs.length ≤ cs.size →
    (vs.zipIdx n).foldl (fun cs (c, j) => cs.setIfInBounds (off + j) c) cs = (spl cs.toList (off + n) vs).toArray := by
  induction vs with
  | nil =>
    intro n cs h
    simp [spl]
  | cons v vs ih =>
    intro n cs h
    simp only [List.zipIdx_cons, List.foldl_cons]
    rw [ih (n + 1) _ (by simp at h ⊢; omega)]
    congr 1
    simp only [Array.toList_setIfInBounds]
    have hl : off + n < cs.toList.length := by simp at h ⊢; omega
    simp only [spl, List.length_cons]
    rw [List.set_eq_take_append_cons_drop, if_pos hl]
    have h1 : (cs.toList.take (off + n) ++ v :: cs.toList.drop (off + n + 1)).take (off + (n + 1)) = cs.toList.take (off + n) ++ [v] := by
      rw [List.take_append, List.length_take, Nat.min_eq_left (by omega), List.take_of_length_le (by rw [List.length_take]; omega), show off + (n + 1) - (off + n) = 1 by omega]
      rfl
    have h2 : (cs.toList.take (off + n) ++ v :: cs.toList.drop (off + n + 1)).drop (off + (n + 1) + vs.length) = cs.toList.drop (off + n + (vs.length + 1)) := by
      rw [List.drop_append, List.length_take, Nat.min_eq_left (by omega), List.drop_eq_nil_of_le (by rw [List.length_take]; omega), List.nil_append,
        show off + (n + 1) + vs.length - (off + n) = vs.length + 1 by omega, List.drop_succ_cons, List.drop_drop]
      congr 1
      omega
    rw [h1, h2]
    simp

def CellsOK (ρ : Nat → Nat) (H : List AObj) (w : World) (cs : List AV) (vs : Array Value) : Prop :=
  vs.size = cs.length ∧ ∀ (k : Nat) (x : AV), cs[k]? = some x → (vs.getD k undef).oneCell' = true ∧ Rep ρ H w x (vs.getD k undef)

theorem CellsOK.spl {ρ : Nat → Nat} {H : List AObj} {w : World} {cs : List AV} {vs : Array Value} (h : CellsOK ρ H w cs vs) {x : AV} {v : Value} (hx : Rep ρ H w x v) (hs : storable x = true) {off : Nat}
    (hfit : off + x.cells.length ≤ cs.length) : CellsOK ρ H w (spl cs off x.cells) (spl vs.toList off v.cells.toList).toArray := by
  obtain ⟨hvs, hcells⟩ := hx.cells hs
  refine ⟨?_, ?_⟩
  · rw [List.size_toArray, spl_length _ _ _ (by rw [Array.length_toList, Array.length_toList]; have := h.1; omega), spl_length _ _ _ hfit, Array.length_toList]
    exact h.1
  · exact spl_rel (R := fun x v => v.oneCell' = true ∧ Rep ρ H w x v) (by have := h.1; omega) (by simpa using hvs) hfit h.2 (fun k y hk => by have := hcells k y hk; simpa [arr_getD] using this)

theorem fillA_run {ρ : Nat → Nat} {H : List AObj} {w : World} {places : List (Nat × Nat)} {place : Nat → Option (Nat × Nat)} (hp : ∀ i os, places[i]? = some os → place i = some os) :
    ∀ (parts : List (Nat × AV)) (vparts : List (Nat × Value)) (cells : List AV) (vs : Array Value) (out : List AV), fillA places cells parts = some out → CellsOK ρ H w cells vs →
      vparts.length = parts.length → (∀ (k : Nat) (i : Nat) (x : AV), parts[k]? = some (i, x) → ∃ v, vparts[k]? = some (i, v) ∧ Rep ρ H w x v) →
      ∃ us, Instr.fill place vs vparts = some us ∧ CellsOK ρ H w out us := by
  intro parts
  induction parts with
  | nil =>
    intro vparts cells vs out h hc hl _
    cases vparts with
    | nil => simp only [fillA, Option.some.injEq] at h; subst h; exact ⟨vs, rfl, hc⟩
    | cons _ _ => simp at hl
  | cons p parts ih =>
    intro vparts cells vs out h hc hl hr
    obtain ⟨i, x⟩ := p
    cases vparts with
    | nil => simp at hl
    | cons q vparts =>
      obtain ⟨v, hv, hx⟩ := hr 0 i x rfl
      simp only [List.getElem?_cons_zero, Option.some.injEq] at hv
      subst hv
      simp only [fillA] at h
      cases hpl : places[i]? with
      | none => rw [hpl] at h; cases h
      | some os =>
        obtain ⟨off, size⟩ := os
        rw [hpl] at h
        simp only [] at h
        split at h
        · rename_i hcond
          obtain ⟨hs, hsz, hfit⟩ := hcond
          have hcv := (hx.cells hs).1
          have hnot : ¬ ((v.cells.size ≠ size || off + v.cells.size > vs.size) = true) := by
            have := hc.1
            simp
            omega
          have hc' := hc.spl hx hs (off := off) (by omega)
          have hfold := foldl_spl off v.cells.toList 0 vs (by rw [Array.length_toList]; have := hc.1; omega)
          rw [Nat.add_zero] at hfold
          obtain ⟨us, hu, hcu⟩ := ih vparts _ _ out h hc' (by simpa using hl) (fun k j y hk => hr (k + 1) j y hk)
          refine ⟨us, ?_, hcu⟩
          simp only [Instr.fill, hp _ _ hpl, hnot, if_false]
          rw [← hu, ← hfold, ← Array.foldl_toList, Array.toList_zipIdx]
          rfl
        · cases h

theorem mapM_opt {P : Program} (fs : List Field) : ∀ (l : List (Nat × Nat)), fs.mapM (fun f => (P.info? f.type).map (fun j => (f.offset, j.size))) = some l →
    ∀ w, (fs.mapM (fun f => do pure (f.offset, ← sizeOf f.type)) : Sem (List (Nat × Nat))).run P w = .ok l w := by
  induction fs with
  | nil => intro l h w; simp only [List.mapM_nil] at h; cases h; rfl
  | cons f fs ih =>
    intro l h w
    rw [List.mapM_cons] at h
    cases hi : P.info? f.type with
    | none => rw [hi] at h; cases h
    | some i =>
      rw [hi] at h
      cases hr : fs.mapM (fun f => (P.info? f.type).map (fun j => (f.offset, j.size))) with
      | none => rw [hr] at h; cases h
      | some l' =>
        rw [hr] at h
        cases h
        have := ih l' hr w
        rw [List.mapM_cons]
        simp only [Sem.run_bind, sizeOf, typeInfo, run_program, Result.andThen_ok, hi, Sem.run_pure] at this ⊢
        rw [this]
        rfl

theorem cv_agg_inv {v : Value} {zs : List AV} (h : cv v = .agg zs) (ρ : Nat → Nat) (H : List AObj) (w : World) : CellsOK ρ H w zs v.cells := by
  have hr := rep_cv ρ H w v
  rw [h] at hr
  cases hr with
  | agg _ vs h1 h2 h3 => exact ⟨h1, fun k x hk => ⟨h2 k x hk, h3 k x hk⟩⟩

theorem kBuild_sound {P : Program} {t : TypeId} {H : List AObj} {K : AV → List AObj → Prop} {ρ : Nat → Nat} {w : World} {T : List AV} {a : Act} (parts : Array (Nat × Operand))
    (h : kBuild P t H K (parts.toList.map fun p => (p.1, ev T p.2))) (hT : RepL ρ H w T a.tmps) (hh : HeapOK ρ H w) :
    Yield P (Instr.build t (parts.map fun (i, x) => (i, a.eval x))) ρ H w K := by
  unfold kBuild at h
  cases htb : tb P t with
  | none => rw [htb] at h; exact h.elim
  | some zp =>
    obtain ⟨zs, places⟩ := zp
    rw [htb] at h
    simp only [] at h
    cases hf : fillA places zs (parts.toList.map fun p => (p.1, ev T p.2)) with
    | none => rw [hf] at h; exact h.elim
    | some cells =>
      rw [hf] at h
      simp only [] at h
      unfold tb at htb
      split at htb
      · rename_i i fs hi hu
        split at htb
        · rename_i cs hz
          split at htb
          · rename_i zs' l hcv hm
            cases htb
            have hzr : (zeroValue t).run P w = .ok (.agg cs) w := by simp [zeroValue, typeInfo, hi, hz]
            have hm' := mapM_opt fs.toList places hm w
            have hcells := cv_agg_inv hcv ρ H w
            obtain ⟨us, hus, hcu⟩ := fillA_run (ρ := ρ) (H := H) (w := w) (places := places) (place := fun i => places.toArray[i]?) (fun i os h => by simpa using h) _ (parts.toList.map fun p => (p.1, a.eval p.2)) zs cs cells hf hcells (by simp)
              (by
                intro k j x hk
                rw [List.getElem?_map] at hk
                cases hp : parts.toList[k]? with
                | none => rw [hp] at hk; cases hk
                | some p =>
                  rw [hp] at hk
                  simp only [Option.map_some, Option.some.injEq, Prod.mk.injEq] at hk
                  obtain ⟨rfl, rfl⟩ := hk
                  exact ⟨a.eval p.2, by rw [List.getElem?_map, hp]; rfl, rep_ev hT _⟩)
            refine Yield.pure hh (v := .agg us) ?_ h (.agg _ _ hcu.1 (fun k x hk => (hcu.2 k x hk).1) (fun k x hk => (hcu.2 k x hk).2))
            have hlist : (parts.map fun (i, x) => (i, a.eval x)).toList = parts.toList.map fun p => (p.1, a.eval p.2) := by simp
            have hmA : (fs.mapM (fun f => do pure (f.offset, ← sizeOf f.type)) : Sem (Array (Nat × Nat))).run P w = .ok places.toArray w := by
              rw [Array.mapM_eq_mapM_toList]
              rw [Sem.run_map, hm']
              rfl
            simp only [Instr.build, Sem.run_bind, hzr, Result.andThen_ok, run_underlying hu, hmA, hlist]
            rw [show (Value.agg cs).cells = cs from rfl] at *
            rw [hus]
            rfl
          · cases htb
        · cases htb
      · rename_i i n e hi hu
        split at htb
        · rename_i cs j hz hj
          split at htb
          · rename_i zs' hcv
            cases htb
            have hzr : (zeroValue t).run P w = .ok (.agg cs) w := by simp [zeroValue, typeInfo, hi, hz]
            have hsz : (sizeOf e).run P w = .ok j.size w := by simp [sizeOf, typeInfo, hj]
            have hcells := cv_agg_inv hcv ρ H w
            obtain ⟨us, hus, hcu⟩ := fillA_run (ρ := ρ) (H := H) (w := w) (place := fun i => some (i * j.size, j.size)) (fun i os h => by
                rw [List.getElem?_map] at h
                cases hr : (List.range n)[i]? with
                | none => rw [hr] at h; cases h
                | some m =>
                  rw [hr] at h
                  rw [List.getElem?_range (by have := lt_of_get hr; rwa [List.length_range] at this)] at hr
                  cases hr
                  exact h) _ (parts.toList.map fun p => (p.1, a.eval p.2)) zs cs cells hf hcells (by simp)
              (by
                intro k j x hk
                rw [List.getElem?_map] at hk
                cases hp : parts.toList[k]? with
                | none => rw [hp] at hk; cases hk
                | some p =>
                  rw [hp] at hk
                  simp only [Option.map_some, Option.some.injEq, Prod.mk.injEq] at hk
                  obtain ⟨rfl, rfl⟩ := hk
                  exact ⟨a.eval p.2, by rw [List.getElem?_map, hp]; rfl, rep_ev hT _⟩)
            refine Yield.pure hh (v := .agg us) ?_ h (.agg _ _ hcu.1 (fun k x hk => (hcu.2 k x hk).1) (fun k x hk => (hcu.2 k x hk).2))
            have hlist : (parts.map fun (i, x) => (i, a.eval x)).toList = parts.toList.map fun p => (p.1, a.eval p.2) := by simp
            simp only [Instr.build, Sem.run_bind, hzr, Result.andThen_ok, run_underlying hu, hsz, hlist]
            rw [show (Value.agg cs).cells = cs from rfl] at *
            rw [hus]
            rfl
          · cases htb
        · cases htb
      · cases htb

/-! ## slices: length, parts -/
/-- The elements of a slice that can be read now. -/
def rowOf (H : List AObj) : AV → Option (List AV)
  | .fz xs => some xs
  | .nils => some []
  | .nilc => some []
  | .sl id g off len =>
    match hget H id with
    | some (.arr g' _ _ els) => if g = g' then some ((els.drop off).take len) else none
    | _ => none
  | _ => none

def kLen (P : Program) (t : TypeId) (H : List AObj) (K : AV → List AObj → Prop) (x : AV) : Prop :=
  match P.underlying t, x with
  | some .string, .str s => K (.int .i64 (s.length : Int)) H
  | some (.slice _), .sl id g off len =>
    (match hget H id with
     | some (.arr g' _ _ _) => g = g'
     | _ => False) ∧ K (.int .i64 (len : Int)) H
  | some (.slice _), .fz xs => K (.int .i64 (xs.length : Int)) H
  | some (.slice _), .nils => K (.int .i64 0) H
  | some (.slice _), .nilc => K (.int .i64 0) H
  | _, _ => False

theorem kLen_sound {P : Program} {t ty : TypeId} {H : List AObj} {K : AV → List AObj → Prop} {x : AV} {v : Value} {ρ : Nat → Nat} {w : World}
    (h : kLen P t H K x) (hx : Rep ρ H w x v) (hh : HeapOK ρ H w) : Yield P (Builtin.len_ #[t] ty #[v]) ρ H w K := by
  unfold kLen at h
  split at h
  · rename_i s hu
    obtain ⟨b, rfl, rfl⟩ := hx.inv_str
    refine Yield.pure hh (v := .int .i64 (b.data.toList.length : Int)) ?_ h (.int _ _)
    simp only [Builtin.len_, List.getElem?_toArray, List.getElem?_cons_zero, Sem.run_bind, run_underlying hu, Result.andThen_ok]
    simp [goInt]
  · rename_i e id g off len hu
    obtain ⟨hg, hK⟩ := h
    cases hx with
    | sl _ _ _ _ e sz els cap cur h1 h2 h3 h4 h5 h6 h7 =>
      refine Yield.pure hh (v := .int .i64 (len : Int)) ?_ hK (.int _ _)
      simp only [Builtin.len_, List.getElem?_toArray, List.getElem?_cons_zero, Sem.run_bind, run_underlying hu, Result.andThen_ok]
      simp [goInt]
    | sl_emp _ _ e sz a h1 =>
      refine Yield.pure hh (v := .int .i64 ((0 : Nat) : Int)) ?_ hK (.int _ _)
      simp only [Builtin.len_, List.getElem?_toArray, List.getElem?_cons_zero, Sem.run_bind, run_underlying hu, Result.andThen_ok]
      simp [goInt]
    | sl_stale _ _ _ _ a n c hs =>
      unfold hget at hg
      rcases hs with ⟨g2, e2, sz2, els2, q1, q2⟩ | q1
      · rw [q1] at hg; simp only [] at hg; omega
      · rw [q1] at hg; exact hg.elim
  · rename_i e xs hu
    cases hx with
    | fz_emp a c =>
      refine Yield.pure hh (v := .int .i64 ((([] : List AV).length : Nat) : Int)) ?_ h (.int _ _)
      simp only [Builtin.len_, List.getElem?_toArray, List.getElem?_cons_zero, Sem.run_bind, run_underlying hu, Result.andThen_ok]
      simp [goInt]
    | fz _ sz a c vals g1 g2 g3 g4 g5 g6 g7 g8 =>
      refine Yield.pure hh (v := .int .i64 (xs.length : Int)) ?_ h (.int _ _)
      simp only [Builtin.len_, List.getElem?_toArray, List.getElem?_cons_zero, Sem.run_bind, run_underlying hu, Result.andThen_ok]
      simp [goInt]
  · rename_i e hu
    cases hx with
    | nils =>
      refine Yield.pure hh (v := .int .i64 0) ?_ h (.int _ _)
      simp only [Builtin.len_, List.getElem?_toArray, List.getElem?_cons_zero, Sem.run_bind, run_underlying hu, Result.andThen_ok]
      simp [goInt]
  · rename_i e hu
    cases hx with
    | nilc a =>
      refine Yield.pure hh (v := .int .i64 0) ?_ h (.int _ _)
      simp only [Builtin.len_, List.getElem?_toArray, List.getElem?_cons_zero, Sem.run_bind, run_underlying hu, Result.andThen_ok]
      simp [goInt]
  · exact h.elim

/-- A row's cells can be read: the elements of a slice, at an address. -/
theorem rowOf_read {ρ : Nat → Nat} {H : List AObj} {w : World} {x : AV} {v : Value} {ys : List AV} (hx : Rep ρ H w x v) (hr : rowOf H x = some ys) (hh : HeapOK ρ H w) :
    ∃ (a : Option Addr) (c : Nat), v = .slice a ys.length c ∧ (ys = [] ∨ ∃ (b : Addr) (sz : Nat) (vals : Nat → Value), a = some b ∧ (∀ y, y ∈ ys → y.cells.length = sz) ∧
      (∀ (k : Nat) (y : AV), (flat ys)[k]? = some y → w.cell? (b.add k) = some (vals k) ∧ (vals k).oneCell' = true ∧ Rep ρ H w y (vals k))) := by
  cases hx <;> simp only [rowOf] at hr <;> try (cases hr; done)
  case nils => cases hr; exact ⟨none, 0, rfl, .inl rfl⟩
  case nilc a => cases hr; exact ⟨a, 0, rfl, .inl rfl⟩
  case fz_emp a c => cases hr; exact ⟨a, c, rfl, .inl rfl⟩
  case fz xs sz a c vals g1 g2 g3 g4 g5 g6 g7 g8 =>
    cases hr
    have ha : a = ⟨a.block, a.off, none⟩ := by cases a; simp_all
    exact ⟨some a, c, rfl, .inr ⟨a, sz, vals, rfl, g5, fun k y hk => ⟨by rw [ha, add_off]; exact g6 k y hk, g7 k y hk, g8 k y hk⟩⟩⟩
  case sl id g off len e sz els cap cur h1 h2 h3 h4 h5 h6 h7 =>
    rw [show hget H id = some (.arr g e sz els) from h1] at hr
    simp only [if_true, Option.some.injEq] at hr
    subst hr
    have hlen : ((els.drop off).take len).length = len := by simp; omega
    obtain ⟨hsz, hc⟩ := hh.arr id g e sz els h1
    obtain ⟨cur2, cap2, hc2, hcap, hmx, hs, hcells⟩ := hc h2
    refine ⟨some ⟨ρ id, off * sz, none⟩, cap, by rw [hlen], .inr ⟨_, sz, fun k => cur2.getD (off * sz + k) undef, rfl, ?_, ?_⟩⟩
    · intro y hy
      exact hsz y (List.mem_of_mem_drop (List.mem_of_mem_take hy))
    · intro k y hk
      have hsub : ∀ z, z ∈ (els.drop off).take len → z.cells.length = sz := fun z hz => hsz z (List.mem_of_mem_drop (List.mem_of_mem_take hz))
      have hklt := lt_of_get hk
      rw [flat_length hsub, hlen] at hklt
      have hsz0 : 0 < sz := by
        rcases Nat.eq_zero_or_pos sz with h0 | h0
        · subst h0; omega
        · exact h0
      have hq : k / sz < len := Nat.div_lt_of_lt_mul (by rw [Nat.mul_comm]; exact hklt)
      have hk2 : k = k / sz * sz + k % sz := by rw [Nat.mul_comm]; exact (Nat.div_add_mod k sz).symm
      have hr2 : k % sz < sz := Nat.mod_lt _ hsz0
      have e1 := flat_get hsub (i := k / sz) (j := k % sz) (by rw [hlen]; exact hq) hr2
      rw [← hk2, hk] at e1
      have e2 : look ((els.drop off).take len) (k / sz) = look els (off + k / sz) := by
        rw [look_eq, look_eq, List.getD_eq_getElem?_getD, List.getD_eq_getElem?_getD, List.getElem?_take, if_pos hq, List.getElem?_drop]
      rw [e2] at e1
      have e3 := flat_get hsz (i := off + k / sz) (j := k % sz) (by omega) hr2
      rw [← e1] at e3
      have e4 : (off + k / sz) * sz + k % sz = off * sz + k := by rw [Nat.add_mul]; omega
      rw [e4] at e3
      have hlt := lt_of_get e3
      have hfl := flat_length hsz
      have hm : els.length * sz ≤ cap2 * sz := Nat.mul_le_mul_right _ hcap
      refine ⟨?_, (hcells _ y e3).1, (hcells _ y e3).2⟩
      rw [add_off]
      exact cell_row_getD hc2 (by omega)
  case sl_emp id g e sz a h1 =>
    rw [show hget H id = some (.arr g e sz []) from h1] at hr
    simp only [if_true, Option.some.injEq] at hr
    subst hr
    exact ⟨a, 0, by simp, .inl (by simp)⟩
  case sl_stale id g off len a n c hs =>
    rcases hs with ⟨g2, e2, sz2, els2, q1, q2⟩ | q1
    · rw [show hget H id = some (.arr g2 e2 sz2 els2) from q1] at hr
      simp only [] at hr
      rw [if_neg (by omega)] at hr
      cases hr
    · rw [show hget H id = some .dead from q1] at hr
      cases hr

end Go.Proofs.Ytamoclnnakdiaaa.Abs
