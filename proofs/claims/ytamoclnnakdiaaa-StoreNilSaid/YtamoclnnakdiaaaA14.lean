/-
  The input, opened: what a law is called with stands for abstract values.
  Conditions: none.
-/
import Derived.Test.YtamoclnnakdiaaaA12
import Derived.ChangeArms
import Derived.SizedLaws
import Derived.WideShapes
namespace Go.Proofs.Ytamoclnnakdiaaa.Abs
open Go Go.RowKit
set_option linter.unusedVariables false

def CellsR (w : World) (ρ : Nat → Nat) (avs : List AV) (cs : List Value) : Prop :=
  cs.length = avs.length ∧ ∀ (k : Nat) (x : AV), avs[k]? = some x → (cs.getD k undef).oneCell' = true ∧ Rep ρ [] w x (cs.getD k undef)

section
variable {H : Type} {enc : TypeId × Value → H} {P : Program} {w : World} {ρ : Nat → Nat}

/-- Cells that read as a type's data stand for abstract cells of a kind. -/
def Opn (enc : TypeId × Value → H) (P : Program) (w : World) (ρ : Nat → Nat) (t : TypeId) (R : List AV → Prop) : Prop :=
  ∀ (fuel : Nat) (cs : List Value) (x : DataW H × List MemPlace), DataW.trod enc P w 0 (fun _ => true) true fuel t cs = some x → (∀ n, n ∈ x.1.weights P t → n ≤ reachBytes) →
    ∃ avs, R avs ∧ avs.length = P.cellsOf t ∧ CellsR w ρ avs cs

theorem Opn.mono {t : TypeId} {R R' : List AV → Prop} (h : Opn enc P w ρ t R) (hr : ∀ avs, R avs → R' avs) : Opn enc P w ρ t R' := by
  intro fuel cs x hx hw
  obtain ⟨avs, h1, h2⟩ := h fuel cs x hx hw
  exact ⟨avs, hr avs h1, h2⟩

theorem cellsR_one {x : AV} {v : Value} (h1 : v.oneCell' = true) (h2 : Rep ρ [] w x v) : CellsR w ρ [x] [v] := by
  refine ⟨rfl, fun k y hk => ?_⟩
  match k, hk with
  | 0, hk => simp only [List.getElem?_cons_zero, Option.some.injEq] at hk; subst hk; exact ⟨h1, h2⟩
  | k + 1, hk => simp at hk

theorem Opn.int {t : TypeId} {k : IntKind} (ht : P.underlying t = some (.int k)) (hs : P.cellsOf t = 1) : Opn enc P w ρ t (fun avs => ∃ n, (Lit.int k n).wf = true ∧ avs = [.int k n]) := by
  intro fuel cs x hx hw
  obtain ⟨n, rfl, rfl, hn⟩ := DataW.trod_int ht hx
  exact ⟨_, ⟨n, hn, rfl⟩, by rw [hs]; rfl, cellsR_one rfl (.int _ _)⟩
theorem Opn.bool {t : TypeId} (ht : P.underlying t = some .bool) (hs : P.cellsOf t = 1) : Opn enc P w ρ t (fun avs => ∃ b, avs = [.bool b]) := by
  intro fuel cs x hx hw
  obtain ⟨b, rfl, rfl⟩ := DataW.trod_bool ht hx
  exact ⟨_, ⟨b, rfl⟩, by rw [hs]; rfl, cellsR_one rfl (.bool _)⟩
theorem Opn.str {t : TypeId} (ht : P.underlying t = some .string) (hs : P.cellsOf t = 1) : Opn enc P w ρ t (fun avs => ∃ s : List UInt8, s.length ≤ 140737488351232 ∧ avs = [.str s]) := by
  intro fuel cs x hx hw
  obtain ⟨s, rfl, rfl, _⟩ := DataW.trod_string ht hx
  have := hw s.data.toList.length (by simp [DataW.weights])
  exact ⟨_, ⟨s.data.toList, this, rfl⟩, by rw [hs]; rfl, cellsR_one rfl (.str _ _ rfl)⟩

/-- A struct's fields: their types, where they lie. -/
def fieldsOf (P : Program) (t : TypeId) : Option (List (TypeId × Nat)) :=
  match P.underlying t with
  | some (.struct fs) => some (fs.toList.map fun f => (f.type, f.offset))
  | _ => none

/-- Fields, one behind the other. -/
inductive OpnF (enc : TypeId × Value → H) (P : Program) (w : World) (ρ : Nat → Nat) : List (TypeId × Nat) → Nat → Nat → (List AV → Prop) → Prop where
  | nil (off : Nat) : OpnF enc P w ρ [] off off (fun avs => avs = [])
  | cons (t : TypeId) (fs : List (TypeId × Nat)) (off sz fin : Nat) (R Rs : List AV → Prop) : P.cellsOf t = sz → Opn enc P w ρ t R → OpnF enc P w ρ fs (off + sz) fin Rs →
      OpnF enc P w ρ ((t, off) :: fs) off fin (fun avs => ∃ a b, R a ∧ Rs b ∧ avs = a ++ b)

theorem OpnF.opened {fs : List (TypeId × Nat)} {off fin : Nat} {R : List AV → Prop} (h : OpnF enc P w ρ fs off fin R) :
    ∀ (n : Nat) (cs : List Value) (xs : List (DataW H × List MemPlace)), xs.length = fs.length →
      (∀ (i : Nat) (f : TypeId × Nat), fs[i]? = some f → DataW.trod enc P w 0 (fun _ => true) true n f.1 ((cs.drop f.2).take (P.cellsOf f.1)) = xs[i]?) →
      (∀ m, m ∈ DataW.weightsEach P (fs.map (·.1)) (xs.map (·.1)) → m ≤ reachBytes) → cs.length = fin → off ≤ fin ∧ ∃ avs, R avs ∧ avs.length = fin - off ∧ CellsR w ρ avs (cs.drop off) := by
  induction h with
  | nil off =>
    intro n cs xs hl ht hw hc
    refine ⟨Nat.le_refl _, [], rfl, by simp, ?_, fun k x hk => by simp at hk⟩
    rw [List.length_drop, hc]
    simp
  | cons t fs off sz fin R Rs hsz hR hRs ih =>
    intro n cs xs hl ht hw hc
    cases xs with
    | nil => simp at hl
    | cons x xs =>
      have h0 := ht 0 _ rfl
      simp only [List.getElem?_cons_zero] at h0
      simp only [List.map_cons, DataW.weightsEach, List.mem_append] at hw
      obtain ⟨a, ha, hal, har⟩ := hR n _ x h0 (fun m hm => hw m (.inl hm))
      obtain ⟨hle, b, hb, hbl, hbr⟩ := ih n cs xs (by simpa using hl) (fun i g hg => by simpa using ht (i + 1) g (by simpa using hg)) (fun m hm => hw m (.inr hm)) hc
      rw [hsz] at hal har
      refine ⟨by omega, a ++ b, ⟨a, b, ha, hb, rfl⟩, by rw [List.length_append, hal, hbl]; omega, ?_⟩
      refine ⟨by rw [List.length_drop, List.length_append, hal, hbl, hc]; omega, fun k y hk => ?_⟩
      rw [List.getD_eq_getElem?_getD, List.getElem?_drop]
      rw [List.getElem?_append] at hk
      split at hk
      · rename_i hlt
        have := har.2 k y hk
        rw [List.getD_eq_getElem?_getD, List.getElem?_take, if_pos (by omega), List.getElem?_drop] at this
        exact this
      · rename_i hge
        have := hbr.2 _ y hk
        rw [List.getD_eq_getElem?_getD, List.getElem?_drop, hal, show off + sz + (k - sz) = off + k by omega] at this
        exact this

theorem Opn.struct {t : TypeId} {fs : List (TypeId × Nat)} {fin : Nat} {R : List AV → Prop} (ht : fieldsOf P t = some fs) (hs : P.cellsOf t = fin) (h : OpnF enc P w ρ fs 0 fin R) : Opn enc P w ρ t R := by
  intro fuel cs x hx hw
  unfold fieldsOf at ht
  split at ht
  · rename_i fl hu
    cases ht
    obtain ⟨xs, n, rfl, rfl, hl, hxl, hf⟩ := DataW.trod_struct hu hx
    simp only [DataW.weights, hu] at hw
    obtain ⟨_, avs, h1, h2, h3⟩ := h.opened n cs xs (by rw [hxl, List.length_map, Array.length_toList]) (fun i f hi => by
        rw [List.getElem?_map] at hi
        cases hg : fl.toList[i]? with
        | none => rw [hg] at hi; cases hi
        | some g =>
          rw [hg] at hi
          cases hi
          exact hf i g (by simpa using hg)) (by rw [List.map_map]; exact hw) (by rw [hl, hs])
    exact ⟨avs, h1, by rw [h2, hs]; rfl, by simpa using h3⟩
  · cases ht

theorem exists_list {α : Type} {p : Nat → α → Prop} : ∀ (n : Nat), (∀ i, i < n → ∃ x, p i x) → ∃ l : List α, l.length = n ∧ ∀ (i : Nat) (x : α), l[i]? = some x → p i x
  | 0, _ => ⟨[], rfl, fun i x h => by simp at h⟩
  | n + 1, h => by
    obtain ⟨l, hl, hp⟩ := exists_list n (fun i hi => h i (by omega))
    obtain ⟨x, hx⟩ := h n (by omega)
    refine ⟨l ++ [x], by simp [hl], fun i y hi => ?_⟩
    rw [List.getElem?_append] at hi
    split at hi
    · exact hp i y hi
    · rename_i hge
      have : i - l.length = 0 := by
        rcases Nat.eq_zero_or_pos (i - l.length) with h0 | h0
        · exact h0
        · rw [List.getElem?_eq_none (by simp; omega)] at hi; cases hi
      rw [this] at hi
      simp only [List.getElem?_cons_zero, Option.some.injEq] at hi
      subst hi
      rw [show i = n by omega]
      exact hx

theorem mem_weightsAll {e : TypeId} : ∀ {ds : List (DataW H)} {i : Nat} {d : DataW H}, ds[i]? = some d → ∀ n, n ∈ d.weights P e → n ∈ DataW.weightsAll P e ds
  | d :: ds, 0, d', h, n, hn => by
    simp only [List.getElem?_cons_zero, Option.some.injEq] at h
    subst h
    simp only [DataW.weightsAll, List.mem_append]
    exact .inl hn
  | d :: ds, i + 1, d', h, n, hn => by
    simp only [List.getElem?_cons_succ] at h
    simp only [DataW.weightsAll, List.mem_append]
    exact .inr (mem_weightsAll h n hn)
  | [], _, _, h, _, _ => by simp at h

theorem not_mu (b : Nat) : ¬ Mu ρ [] b := by
  rintro ⟨id, o, h, _⟩
  simp at h

theorem Opn.slice {t e : TypeId} {R : List AV → Prop} {mk : List AV → AV} (ht : P.underlying t = some (.slice e)) (hs : P.cellsOf t = 1) (he : 0 < P.cellsOf e) (h : Opn enc P w ρ e R) (hmk : ∀ avs, R avs → (mk avs).cells = avs) :
    Opn enc P w ρ t (fun avs => ∃ xs : List (List AV), (∀ x, x ∈ xs → R x) ∧ xs.length * P.bytesOf e ≤ reachBytes ∧ avs = [.fz (xs.map mk)]) := by
  intro fuel cs x hx hw
  rcases DataW.trod_slice ht hx with ⟨rfl, rfl⟩ | ⟨a, len, cap, elems, rest, n, rfl, rfl, rfl, hb, hl, hm, hel, hg, _⟩
  · exact ⟨_, ⟨[], by simp, by simp, rfl⟩, by rw [hs]; rfl, cellsR_one rfl (.fz_emp _ _)⟩
  · simp only [DataW.weights, ht] at hw
    have hsz := hw _ (List.mem_cons_self ..)
    have hall : ∀ i, i < len → ∃ avs : List AV, R avs ∧ avs.length = P.cellsOf e ∧ ∃ cs', w.cells? 0 (a.add (i * P.cellsOf e)) (P.cellsOf e) = some cs' ∧ CellsR w ρ avs cs' := by
      intro i hi
      have hgi := hg i hi
      rw [List.getElem?_eq_getElem (by omega), Option.bind_eq_some_iff] at hgi
      obtain ⟨cs', h1, h2⟩ := hgi
      obtain ⟨avs, r1, r2, r3⟩ := h n cs' _ h2 (fun m hm => hw m (by
        refine List.mem_cons_of_mem _ (List.mem_append_left _ (mem_weightsAll (i := i) (d := elems[i].1) ?_ m hm))
        rw [List.getElem?_map, List.getElem?_eq_getElem (by omega)]
        rfl))
      exact ⟨avs, r1, r2, cs', h1, r3⟩
    obtain ⟨xs, hxl, hxs⟩ := exists_list len hall
    refine ⟨_, ⟨xs, fun y hy => ?_, ?_, rfl⟩, by rw [hs]; rfl, ?_⟩
    · obtain ⟨i, hi⟩ := List.getElem?_of_mem hy
      exact (hxs i y hi).1
    · rw [List.length_map, List.length_map, hel] at hsz
      rw [hxl]
      exact Nat.le_trans (Nat.mul_le_mul_right _ (by omega)) hsz
    · refine cellsR_one rfl ?_
      have hsub : ∀ x, x ∈ xs.map mk → x.cells.length = P.cellsOf e := by
        intro x hx
        obtain ⟨y, hy, rfl⟩ := List.mem_map.1 hx
        obtain ⟨i, hi⟩ := List.getElem?_of_mem hy
        rw [hmk y (hxs i y hi).1]
        exact (hxs i y hi).2.1
      rcases Nat.eq_zero_or_pos len with h0 | h0
      · have : xs = [] := List.eq_nil_of_length_eq_zero (by omega)
        subst this
        subst h0
        exact .fz_emp _ _
      · have cell : ∀ i j, i < len → j < P.cellsOf e → ∃ cs' avs, xs[i]? = some avs ∧ CellsR w ρ avs cs' ∧ avs.length = P.cellsOf e ∧ w.cell? (a.add (i * P.cellsOf e + j)) = cs'[j]? := by
          intro i j hi hj
          obtain ⟨avs, hav⟩ : ∃ avs, xs[i]? = some avs := ⟨xs[i], List.getElem?_eq_getElem (by omega)⟩
          obtain ⟨_, r2, cs', r3, r4⟩ := hxs i avs hav
          refine ⟨cs', avs, hav, r4, r2, ?_⟩
          unfold World.cells? at r3
          rw [if_pos (Nat.zero_le _)] at r3
          have := mapM_some_get r3 j j (by rw [List.getElem?_range hj])
          rw [← this]
          congr 1
          unfold Addr.add
          split <;> split <;> (try split) <;> simp_all <;> omega
        have hspot : a.spot = none := by
          obtain ⟨cs', avs, q1, q2, q3, q4⟩ := cell 0 0 h0 he
          have : cs'[0]? ≠ none := by rw [List.getElem?_eq_getElem (by have := q2.1; omega)]; simp
          rw [← q4] at this
          simp only [Nat.zero_mul, Nat.add_zero, Addr.add, if_true] at this
          unfold World.cell? at this
          split at this
          · cases hsp : a.spot with
            | none => rfl
            | some z => rw [hsp] at this; simp at this
          · exact absurd rfl this
        have hblk : a.block < w.heap.size := by
          obtain ⟨cs', avs, q1, q2, q3, q4⟩ := cell 0 0 h0 he
          have : cs'[0]? ≠ none := by rw [List.getElem?_eq_getElem (by have := q2.1; omega)]; simp
          rw [← q4] at this
          simp only [Nat.zero_mul, Nat.add_zero, Addr.add, if_true] at this
          unfold World.cell? at this
          rcases Nat.lt_or_ge a.block w.heap.size with hlt | hge
          · exact hlt
          · rw [Array.getElem?_eq_none hge] at this
            exact absurd rfl this
        have haddr : ∀ k, a.add k = ⟨a.block, a.off + k, none⟩ := by
          intro k
          unfold Addr.add
          split
          · rename_i hk; cases a; simp_all
          · rfl
        have key : ∀ (k : Nat) (y : AV), (flat (xs.map mk))[k]? = some y → ∃ v, w.cell? ⟨a.block, a.off + k, none⟩ = some v ∧ v.oneCell' = true ∧ Rep ρ [] w y v := by
          intro k y hk
          have hkl := lt_of_get hk
          rw [flat_length hsub, List.length_map, hxl] at hkl
          have hi : k / P.cellsOf e < len := (Nat.div_lt_iff_lt_mul he).2 hkl
          have hj : k % P.cellsOf e < P.cellsOf e := Nat.mod_lt _ he
          have hkk : k / P.cellsOf e * P.cellsOf e + k % P.cellsOf e = k := by rw [Nat.mul_comm]; exact Nat.div_add_mod k _
          have hfg := flat_get hsub (i := k / P.cellsOf e) (j := k % P.cellsOf e) (by rw [List.length_map, hxl]; exact hi) hj
          rw [hkk, hk] at hfg
          obtain ⟨cs', avs, q1, q2, q3, q4⟩ := cell _ _ hi hj
          have hlook : (look (xs.map mk) (k / P.cellsOf e)).cells = avs := by
            rw [look_eq, List.getD_eq_getElem?_getD, List.getElem?_map, q1]
            exact hmk avs (hxs _ _ q1).1
          rw [hlook] at hfg
          obtain ⟨g1, g2⟩ := q2.2 _ y hfg.symm
          rw [hkk, haddr] at q4
          refine ⟨cs'.getD (k % P.cellsOf e) undef, ?_, g1, g2⟩
          rw [q4, List.getD_eq_getElem?_getD, List.getElem?_eq_getElem (by have := q2.1; omega)]
          rfl
        rw [show len = (xs.map mk).length by rw [List.length_map, hxl]]
        refine .fz (xs.map mk) (P.cellsOf e) a cap (fun k => (w.cell? ⟨a.block, a.off + k, none⟩).getD undef) hspot hblk (not_mu _) (by rw [List.length_map, hxl]; exact hl) hsub ?_ ?_ ?_
        · intro k y hk
          obtain ⟨v, h1, _, _⟩ := key k y hk
          rw [h1]; rfl
        · intro k y hk
          obtain ⟨v, h1, h2, _⟩ := key k y hk
          rw [h1]; exact h2
        · intro k y hk
          obtain ⟨v, h1, _, h3⟩ := key k y hk
          rw [h1]; exact h3

/-- A slice of things. -/
theorem Opn.sliceOf {α : Type} {t e : TypeId} {ok : α → Prop} {f : α → List AV} {g : α → AV} (h : Opn enc P w ρ e (fun avs => ∃ a : α, ok a ∧ avs = f a)) (hg : ∀ a, (g a).cells = f a)
    (ht : P.underlying t = some (.slice e)) (hs : P.cellsOf t = 1) (he : (0 < P.cellsOf e) = True) (hmk : ∃ mk : List AV → AV, ∀ a, mk (f a) = g a) (by_ : Nat) (hb : P.bytesOf e = by_) :
    Opn enc P w ρ t (fun avs => ∃ l : List α, ((∀ a, a ∈ l → ok a) ∧ l.length * by_ ≤ 140737488351232) ∧ avs = [.fz (l.map g)]) := by
  obtain ⟨mk, hmk⟩ := hmk
  refine (Opn.slice (mk := mk) ht hs (by rw [he]; trivial) h (fun avs ha => ?_)).mono ?_
  · obtain ⟨a, _, rfl⟩ := ha
    rw [hmk, hg]
  · rintro avs ⟨xs, h1, h2, rfl⟩
    have : ∃ l : List α, (∀ a, a ∈ l → ok a) ∧ l.length = xs.length ∧ xs.map mk = l.map g := by
      clear h2
      induction xs with
      | nil => exact ⟨[], by simp, rfl, rfl⟩
      | cons x xs ih =>
        obtain ⟨l, q1, q2, q3⟩ := ih (fun y hy => h1 y (List.mem_cons_of_mem _ hy))
        obtain ⟨a, ha, rfl⟩ := h1 x (List.mem_cons_self ..)
        refine ⟨a :: l, ?_, by simp [q2], by simp [q3, hmk]⟩
        intro b hb
        rcases List.mem_cons.1 hb with rfl | hb
        · exact ha
        · exact q1 b hb
    obtain ⟨l, q1, q2, q3⟩ := this
    exact ⟨l, ⟨q1, by rw [q2, ← hb]; exact h2⟩, by rw [q3]⟩

/-- An argument of many cells. -/
theorem Opn.argAgg {α : Type} {t : TypeId} {ok : α → Prop} {f : α → List AV} (h : Opn enc P w ρ t (fun avs => ∃ a : α, ok a ∧ avs = f a)) {fs : List (TypeId × Nat)} (ht : fieldsOf P t = some fs) {r : Reach} {b : Nat} {v : Value} {d : DataW H} {p : List MemPlace}
    (hv : Value.okWide P w r b t v) (hd : DataW.Trod enc P w 0 (fun _ => true) true t v d p) (hw : ∀ n, n ∈ d.weights P t → n ≤ reachBytes) : ∃ a : α, ok a ∧ Rep ρ [] w (.agg (f a)) v := by
  unfold fieldsOf at ht
  split at ht
  · rename_i fl hu
    obtain ⟨cs, rfl, _⟩ := WideShapes.okWide_struct hu hv
    obtain ⟨fuel, hf⟩ := hd
    obtain ⟨avs, ⟨a, ha, rfl⟩, _, h2⟩ := h fuel _ _ hf hw
    refine ⟨a, ha, .agg _ _ ?_ ?_ ?_⟩
    · have := h2.1
      rw [show (Value.agg cs).cells = cs from rfl, Array.length_toList] at this
      exact this
    · intro k x hk
      have := (h2.2 k x hk).1
      rwa [show (Value.agg cs).cells = cs from rfl, ← arr_getD] at this
    · intro k x hk
      have := (h2.2 k x hk).2
      rwa [show (Value.agg cs).cells = cs from rfl, ← arr_getD] at this
  · cases ht

/-- An argument of one cell. -/
theorem Opn.argOne {α : Type} {t : TypeId} {ok : α → Prop} {g : α → AV} (h : Opn enc P w ρ t (fun avs => ∃ a : α, ok a ∧ avs = [g a])) {v : Value} {d : DataW H} {p : List MemPlace} (hc : v.cells = #[v])
    (hd : DataW.Trod enc P w 0 (fun _ => true) true t v d p) (hw : ∀ n, n ∈ d.weights P t → n ≤ reachBytes) : ∃ a : α, ok a ∧ Rep ρ [] w (g a) v := by
  obtain ⟨fuel, hf⟩ := hd
  obtain ⟨avs, ⟨a, ha, rfl⟩, _, h2⟩ := h fuel _ _ hf hw
  refine ⟨a, ha, ?_⟩
  have := (h2.2 0 _ rfl).2
  rwa [hc] at this

end
end Go.Proofs.Ytamoclnnakdiaaa.Abs
