/-
  All that a call has made is read by value from its end on.
  Conditions: none.
-/
import Derived.Test.YtamoclnnakdiaaaA18
namespace Go.Proofs.Ytamoclnnakdiaaa.Abs
open Go Go.RowKit
set_option linter.unusedVariables false

/-- y is x, read by value: ids from n on are gone. -/
inductive Dfz (n : Nat) (H : List AObj) : AV → AV → Prop where
  | junk (x : AV) : Dfz n H x .junk
  | same (x : AV) : Below' n x → Dfz n H x x
  | sl (id g off len : Nat) (e : TypeId) (sz : Nat) (els els' : List AV) : H[id]? = some (.arr g e sz els) → n ≤ id → els'.length = els.length → (∀ y, y ∈ els' → y.cells.length = sz) →
      (∀ (k : Nat) (x y : AV), (flat els)[k]? = some x → (flat els')[k]? = some y → Dfz n H x y) → Dfz n H (.sl id g off len) (.fz ((els'.drop off).take len))
  | ptr (id off : Nat) (cs cs' : List AV) : H[id]? = some (.var cs) → n ≤ id → cs'.length = cs.length → (∀ (k : Nat) (x y : AV), cs[k]? = some x → cs'[k]? = some y → Dfz n H x y) → Dfz n H (.ptr id off) (.fptr (cs'.drop off))
  | agg (cs cs' : List AV) : cs'.length = cs.length → (∀ (k : Nat) (x y : AV), cs[k]? = some x → cs'[k]? = some y → Dfz n H x y) → Dfz n H (.agg cs) (.agg cs')
  | tuple (cs cs' : List AV) : cs'.length = cs.length → (∀ (k : Nat) (x y : AV), cs[k]? = some x → cs'[k]? = some y → Dfz n H x y) → Dfz n H (.tuple cs) (.tuple cs')
  | fptr (cs cs' : List AV) : cs'.length = cs.length → (∀ (k : Nat) (x y : AV), cs[k]? = some x → cs'[k]? = some y → Dfz n H x y) → Dfz n H (.fptr cs) (.fptr cs')
  | fz (xs xs' : List AV) : xs'.length = xs.length → (∀ (k : Nat) (x y : AV), xs[k]? = some x → xs'[k]? = some y → y.cells.length = x.cells.length) →
      (∀ (k : Nat) (x y : AV), (flat xs)[k]? = some x → (flat xs')[k]? = some y → Dfz n H x y) → Dfz n H (.fz xs) (.fz xs')
  | iface (t : TypeId) (x y : AV) : Dfz n H x y → Dfz n H (.iface t x) (.iface t y)

theorem flat_len_eq : ∀ {xs ys : List AV}, ys.length = xs.length → (∀ (k : Nat) (x y : AV), xs[k]? = some x → ys[k]? = some y → y.cells.length = x.cells.length) → (flat ys).length = (flat xs).length
  | [], [], _, _ => rfl
  | x :: xs, y :: ys, h1, h2 => by
    have := flat_len_eq (xs := xs) (ys := ys) (by simpa using h1) (fun k a b ha hb => h2 (k + 1) a b (by simpa using ha) (by simpa using hb))
    have h0 := h2 0 x y rfl rfl
    simp only [flat, List.flatMap_cons, List.length_append] at *
    omega
  | [], _ :: _, h, _ => by simp at h
  | _ :: _, [], h, _ => by simp at h

theorem Dfz.rep {ρ : Nat → Nat} {H L : List AObj} {w : World} (hh : HeapOK ρ (H ++ L) w) {x y : AV} (hf : Dfz H.length (H ++ L) x y) : ∀ {v : Value}, Rep ρ (H ++ L) w x v → Rep ρ H w y v := by
  have nomu : ∀ (id : Nat) (o : AObj), (H ++ L)[id]? = some o → o.live → H.length ≤ id → ¬ Mu ρ H (ρ id) := by
    rintro id o h1 h2 h3 ⟨j, p, hj, hl, he⟩
    have hjl := lt_of_get hj
    have := hh.inj j id p o (by rw [List.getElem?_append_left hjl]; exact hj) hl h1 h2 he
    omega
  induction hf with
  | junk x => intro v _; exact .junk v
  | same x hb => intro v h; exact h.trunc hb
  | sl id g off len e sz els els' hid hn hlen hsz' _ ih =>
    intro v h
    cases h with
    | sl _ _ _ _ e1 sz1 els1 cap cur h1 h2 h3 h4 h5 h6 h7 =>
      rw [h1] at hid
      cases hid
      obtain ⟨hsz, hc⟩ := hh.arr id g e sz els h1
      obtain ⟨cur2, cap2, c1, c2, c3, c4, c5⟩ := hc h2
      rw [h6] at c1
      cases c1
      have hl2 : ((els'.drop off).take len).length = len := by simp; omega
      have hlt := hh.lt ⟨id, _, h1, h2, rfl⟩
      have hfe := flat_length hsz
      have hfe' := flat_length hsz'
      have hsub : ∀ z, z ∈ (els'.drop off).take len → z.cells.length = sz := fun z hz => hsz' z (List.mem_of_mem_drop (List.mem_of_mem_take hz))
      have hfl : ∀ (k : Nat) (y : AV), (flat ((els'.drop off).take len))[k]? = some y → (flat els')[off * sz + k]? = some y := by
        intro k y hk
        have hx : els' = els'.take off ++ ((els'.drop off).take len ++ (els'.drop off).drop len) := by rw [List.take_append_drop, List.take_append_drop]
        have hpre : (flat (els'.take off)).length = off * sz := by
          rw [flat_length (fun z hz => hsz' z (List.mem_of_mem_take hz)), List.length_take, Nat.min_eq_left (by omega)]
        have hfx : flat els' = flat (els'.take off) ++ (flat ((els'.drop off).take len) ++ flat ((els'.drop off).drop len)) := by
          conv => lhs; rw [hx]
          simp only [flat, List.flatMap_append]
        rw [hfx, List.getElem?_append_right (by omega), hpre, show off * sz + k - off * sz = k by omega, List.getElem?_append_left (lt_of_get hk)]
        exact hk
      have hm2 : els.length * sz ≤ cap2 * sz := Nat.mul_le_mul_right _ c2
      have hold : ∀ (k : Nat) (y : AV), (flat els')[k]? = some y → ∃ x, (flat els)[k]? = some x := by
        intro k y hk
        have := lt_of_get hk
        rw [hfe', hlen, ← hfe] at this
        exact ⟨_, List.getElem?_eq_getElem this⟩
      have key : Rep ρ H w (.fz ((els'.drop off).take len)) (.slice (some ⟨ρ id, off * sz, none⟩) ((els'.drop off).take len).length cap) := by
        refine .fz _ sz _ cap (fun k => cur.getD (off * sz + k) undef) rfl hlt (nomu id _ h1 h2 hn) (by omega) hsub ?_ ?_ ?_
        · intro k y hk
          obtain ⟨x, hx⟩ := hold _ y (hfl k y hk)
          have := lt_of_get hx
          show w.cell? ⟨ρ id, off * sz + k, none⟩ = _
          exact cell_row_getD h6 (by omega)
        · intro k y hk
          obtain ⟨x, hx⟩ := hold _ y (hfl k y hk)
          exact (c5 _ x hx).1
        · intro k y hk
          obtain ⟨x, hx⟩ := hold _ y (hfl k y hk)
          exact ih _ x y hx (hfl k y hk) (c5 _ x hx).2
      rw [hl2] at key
      exact key
    | sl_emp _ _ e1 sz1 a h1 =>
      rw [h1] at hid
      cases hid
      obtain rfl : els' = [] := List.eq_nil_of_length_eq_zero (by simpa using hlen)
      rw [List.drop_nil, List.take_nil]
      exact .fz_emp _ _
    | sl_stale _ _ _ _ a n c hs =>
      rcases hs with ⟨g2, e2, sz2, els2, q1, q2⟩ | q1
      · rw [q1] at hid; cases hid; omega
      · rw [q1] at hid; cases hid
  | ptr id off cs cs' hid hn hlen _ ih =>
    intro v h
    cases h with
    | ptr _ _ cs1 h1 =>
      rw [h1] at hid
      cases hid
      obtain ⟨cur, e, g1, g2, g3⟩ := hh.var id cs h1
      have hlt := hh.lt ⟨id, _, h1, trivial, rfl⟩
      have old : ∀ (k : Nat) (y : AV), (cs'.drop off)[k]? = some y → ∃ x, cs[off + k]? = some x ∧ cs'[off + k]? = some y := by
        intro k y hk
        rw [List.getElem?_drop] at hk
        have := lt_of_get hk
        exact ⟨_, List.getElem?_eq_getElem (by omega), hk⟩
      refine .fptr _ _ (fun k => cur.getD (off + k) undef) rfl hlt (nomu id _ h1 trivial hn) ?_ ?_ ?_
      · intro k y hk
        obtain ⟨x, hx, _⟩ := old k y hk
        have := lt_of_get hx
        show w.cell? ⟨ρ id, off + k, none⟩ = _
        exact cell_row_getD g1 (by omega)
      · intro k y hk
        obtain ⟨x, hx, _⟩ := old k y hk
        exact (g3 _ x hx).1
      · intro k y hk
        obtain ⟨x, hx, hy⟩ := old k y hk
        exact ih _ x y hx hy (g3 _ x hx).2
  | agg cs cs' hl _ ih =>
    intro v h
    cases h with
    | agg _ vs h1 h2 h3 =>
      refine .agg cs' vs (by omega) ?_ ?_
      · intro k y hk
        have hk' := lt_of_get hk
        exact h2 k _ (List.getElem?_eq_getElem (by omega))
      · intro k y hk
        have hk' := lt_of_get hk
        exact ih k _ y (List.getElem?_eq_getElem (by omega)) hk (h3 k _ (List.getElem?_eq_getElem (by omega)))
  | tuple cs cs' hl _ ih =>
    intro v h
    cases h with
    | tuple _ vs h1 h3 =>
      refine .tuple cs' vs (by omega) ?_
      intro k y hk
      have hk' := lt_of_get hk
      exact ih k _ y (List.getElem?_eq_getElem (by omega)) hk (h3 k _ (List.getElem?_eq_getElem (by omega)))
  | fptr cs cs' hl _ ih =>
    intro v h
    cases h with
    | fptr _ a vals h1 h2 h3 h4 h5 h6 =>
      have old : ∀ (k : Nat) (y : AV), cs'[k]? = some y → ∃ x, cs[k]? = some x := fun k y hk => by
        have := lt_of_get hk
        exact ⟨_, List.getElem?_eq_getElem (by omega)⟩
      refine .fptr cs' a vals h1 h2 (fun hm => h3 (mu_app hm)) ?_ ?_ ?_
      · intro k y hk; obtain ⟨x, hx⟩ := old k y hk; exact h4 k x hx
      · intro k y hk; obtain ⟨x, hx⟩ := old k y hk; exact h5 k x hx
      · intro k y hk; obtain ⟨x, hx⟩ := old k y hk; exact ih k x y hx hk (h6 k x hx)
  | fz xs xs' hl hc _ ih =>
    intro v h
    cases h with
    | fz_emp a c =>
      obtain rfl : xs' = [] := List.eq_nil_of_length_eq_zero (by simpa using hl)
      exact .fz_emp a c
    | fz _ sz a c vals h1 h2 h3 h4 h5 h6 h7 h8 =>
      have hfl := flat_len_eq hl hc
      have old : ∀ (k : Nat) (y : AV), (flat xs')[k]? = some y → ∃ x, (flat xs)[k]? = some x := fun k y hk => by
        have := lt_of_get hk
        exact ⟨_, List.getElem?_eq_getElem (by omega)⟩
      rw [← hl]
      refine .fz xs' sz a c vals h1 h2 (fun hm => h3 (mu_app hm)) (by omega) ?_ ?_ ?_ ?_
      · intro y hy
        obtain ⟨k, hk⟩ := List.getElem?_of_mem hy
        have hk' := lt_of_get hk
        have hx : xs[k]? = some xs[k] := List.getElem?_eq_getElem (by omega)
        rw [hc k _ y hx hk]
        exact h5 _ (List.getElem_mem _)
      · intro k y hk; obtain ⟨x, hx⟩ := old k y hk; exact h6 k x hx
      · intro k y hk; obtain ⟨x, hx⟩ := old k y hk; exact h7 k x hx
      · intro k y hk; obtain ⟨x, hx⟩ := old k y hk; exact ih k x y hx hk (h8 k x hx)
  | iface t x y _ ih =>
    intro v h
    cases h with
    | iface _ _ v' h1 => exact .iface t y v' (ih h1)

/-- Slots read by value. -/
def DfzL (n : Nat) (H : List AObj) : List AV → List AV → Prop
  | [], [] => True
  | x :: l, y :: l' => Dfz n H x y ∧ DfzL n H l l'
  | _, _ => False

theorem DfzL.spec {n : Nat} {H : List AObj} : ∀ {l l' : List AV}, DfzL n H l l' → l'.length = l.length ∧ ∀ (k : Nat) (x y : AV), l[k]? = some x → l'[k]? = some y → Dfz n H x y
  | [], [], _ => ⟨rfl, fun k x y h => by simp at h⟩
  | a :: l, b :: l', ⟨h1, h2⟩ => by
    obtain ⟨g1, g2⟩ := DfzL.spec h2
    refine ⟨by simp [g1], fun k x y hx hy => ?_⟩
    cases k with
    | zero => simp only [List.getElem?_cons_zero, Option.some.injEq] at hx hy; subst hx hy; exact h1
    | succ k => exact g2 k x y (by simpa using hx) (by simpa using hy)
  | [], _ :: _, h => h.elim
  | _ :: _, [], h => h.elim

theorem DfzL.append {n : Nat} {H : List AObj} : ∀ {a a' b b' : List AV}, DfzL n H a a' → DfzL n H b b' → DfzL n H (a ++ b) (a' ++ b')
  | [], [], _, _, _, h => h
  | _ :: a, _ :: a', _, _, ⟨h1, h2⟩, h => ⟨h1, DfzL.append h2 h⟩
  | [], _ :: _, _, _, h, _ => h.elim
  | _ :: _, [], _, _, h, _ => h.elim

theorem DfzL.same {n : Nat} {H : List AObj} : ∀ {l : List AV}, (∀ x, x ∈ l → Below' n x) → DfzL n H l l
  | [], _ => trivial
  | x :: l, h => ⟨.same x (h x (by simp)), DfzL.same (fun y hy => h y (by simp [hy]))⟩

/-- Elements read by value, cell by cell. -/
def DfzE (n : Nat) (H : List AObj) : List AV → List AV → Prop
  | [], [] => True
  | x :: l, y :: l' => DfzL n H x.cells y.cells ∧ DfzE n H l l'
  | _, _ => False

theorem DfzE.spec {n : Nat} {H : List AObj} : ∀ {l l' : List AV}, DfzE n H l l' → l'.length = l.length ∧ (∀ (k : Nat) (x y : AV), l[k]? = some x → l'[k]? = some y → y.cells.length = x.cells.length) ∧ DfzL n H (flat l) (flat l')
  | [], [], _ => ⟨rfl, fun k x y h => by simp at h, trivial⟩
  | a :: l, b :: l', ⟨h1, h2⟩ => by
    obtain ⟨g1, g2, g3⟩ := DfzE.spec h2
    refine ⟨by simp [g1], fun k x y hx hy => ?_, ?_⟩
    · cases k with
      | zero => simp only [List.getElem?_cons_zero, Option.some.injEq] at hx hy; subst hx hy; exact h1.spec.1
      | succ k => exact g2 k x y (by simpa using hx) (by simpa using hy)
    · simp only [flat, List.flatMap_cons]
      exact h1.append g3
  | [], _ :: _, h => h.elim
  | _ :: _, [], h => h.elim

theorem DfzE.map {n : Nat} {H : List AObj} {α : Type} {f g : α → AV} : ∀ {l : List α}, (∀ a, a ∈ l → DfzL n H (f a).cells (g a).cells) → DfzE n H (l.map f) (l.map g)
  | [], _ => trivial
  | a :: l, h => ⟨h a (by simp), DfzE.map (fun b hb => h b (by simp [hb]))⟩

theorem below_cells {n : Nat} {x : AV} (h : Below' n x) : ∀ y, y ∈ x.cells → Below' n y := by
  intro y hy
  cases x <;> simp only [AV.cells, List.mem_singleton] at hy <;> first | (subst hy; exact h) | exact (below_agg _ _).1 h y hy

theorem DfzE.same {n : Nat} {H : List AObj} : ∀ {l : List AV}, (∀ x, x ∈ l → Below' n x) → DfzE n H l l
  | [], _ => trivial
  | x :: l, h => ⟨DfzL.same (below_cells (h x (by simp))), DfzE.same (fun y hy => h y (by simp [hy]))⟩

theorem Dfz.aggL {n : Nat} {H : List AObj} {cs cs' : List AV} (h : DfzL n H cs cs') : Dfz n H (.agg cs) (.agg cs') := .agg cs cs' h.spec.1 h.spec.2
theorem Dfz.tupleL {n : Nat} {H : List AObj} {cs cs' : List AV} (h : DfzL n H cs cs') : Dfz n H (.tuple cs) (.tuple cs') := .tuple cs cs' h.spec.1 h.spec.2
theorem Dfz.fzE {n : Nat} {H : List AObj} {xs xs' : List AV} (h : DfzE n H xs xs') : Dfz n H (.fz xs) (.fz xs') := .fz xs xs' h.spec.1 h.spec.2.1 h.spec.2.2.spec.2
/-- A whole slice of a live array. -/
theorem Dfz.slE {n : Nat} {H : List AObj} {id g len : Nat} {e : TypeId} {sz : Nat} {els els' : List AV} (hid : hget H id = some (.arr g e sz els)) (hn : n ≤ id) (hsz : ∀ x, x ∈ els → x.cells.length = sz) (hl : len = els.length) (h : DfzE n H els els') :
    Dfz n H (.sl id g 0 len) (.fz els') := by
  obtain ⟨h1, h2, h3⟩ := h.spec
  have hs2 : ∀ y, y ∈ els' → y.cells.length = sz := by
    intro y hy
    obtain ⟨k, hk⟩ := List.getElem?_of_mem hy
    have hk' := lt_of_get hk
    have hk2 : k < els.length := by omega
    have hx : els[k]? = some els[k] := List.getElem?_eq_getElem hk2
    rw [h2 k _ y hx hk]
    exact hsz _ (List.getElem_mem _)
  have := Dfz.sl id g 0 len e sz els els' hid hn h1 hs2 h3.spec.2
  have hle : els'.length ≤ len := by omega
  rwa [List.drop_zero, List.take_of_length_le hle] at this

/-- What a call has made is read by value. -/
theorem weak_dfz {m : Nat} {T T' : List AV} {H H1 L : List AObj} (hH : H1 = H ++ L) (hm : m ≤ H.length) (hB : HB H) (hT : DfzL H.length H1 T T') : Weak m ⟨T, H1⟩ ⟨T', H⟩ := by
  subst hH
  intro ρ w a hr
  refine ⟨ρ, ⟨?_, ?_⟩, ?_⟩
  · obtain ⟨h1, h2⟩ := hT.spec
    refine ⟨hr.tmps.1.trans h1.symm, fun k y hk => ?_⟩
    have hk' : k < T'.length := lt_of_get hk
    have hx : T[k]? = some T[k] := List.getElem?_eq_getElem (by omega)
    exact Dfz.rep hr.heap (h2 k _ y hx hk) (hr.tmps.2 k _ hx)
  · have back : ∀ (id : Nat) (o : AObj), H[id]? = some o → (H ++ L)[id]? = some o := fun id o ho => by rw [List.getElem?_append_left (lt_of_get ho)]; exact ho
    refine ⟨?_, ?_, ?_, ?_⟩
    · intro i j o p ho hol hp hpl hij
      exact hr.heap.inj i j o p (back i o ho) hol (back j p hp) hpl hij
    · intro id cs hid
      obtain ⟨cur, e, h1, h2, h3⟩ := hr.heap.var id cs (back id _ hid)
      have hb := hB _ (List.mem_of_getElem? hid)
      exact ⟨cur, e, h1, h2, fun k x hk => ⟨(h3 k x hk).1, (h3 k x hk).2.trunc (hb x (List.mem_of_getElem? hk))⟩⟩
    · intro id g e sz els hid
      obtain ⟨h1, h2⟩ := hr.heap.arr id g e sz els (back id _ hid)
      refine ⟨h1, fun hne => ?_⟩
      obtain ⟨cur, cap, h3, h4, h5, h6, h7⟩ := h2 hne
      have hb := hB _ (List.mem_of_getElem? hid)
      refine ⟨cur, cap, h3, h4, h5, h6, fun k x hk => ⟨(h7 k x hk).1, (h7 k x hk).2.trunc ?_⟩⟩
      obtain ⟨y, hy, hxy⟩ := List.mem_flatMap.1 (List.mem_of_getElem? hk)
      exact below_cells (hb y hy) x hxy
    · intro id st pend T1 ps asg body hid
      obtain ⟨fn, D, tmps, h1, h2, h3⟩ := hr.heap.loop id st pend T1 ps asg body (back id _ hid)
      have hb := hB _ (List.mem_of_getElem? hid)
      exact ⟨fn, D, tmps, h1, h2, fun k x hk => (h3 k x hk).trunc (hb x (List.mem_of_getElem? hk))⟩
  · refine ⟨rfl, rfl, rfl, Nat.le_refl _, fun _ _ _ => rfl, fun b hb => .inl (mu_app hb), ?_⟩
    intro id o hid ho
    rw [List.getElem?_append_left (by omega)] at ho
    exact ⟨o, ho, .refl ρ w id o⟩

/-- The end of a call that answers by value. -/
theorem end_dfz {P : Program} {fn : Func} {T : List AV} {H H1 : List AObj} {u v : AV} (L : List AObj) (hB : HB H) (hr : resT P fn T H1 = some u) (hH : H1 = H ++ L) (hf : Dfz H.length H1 u v) :
    bodyEnd P fn H.length (fun x H' => x = .ret v ∧ H' = H) .ret ⟨T, H1⟩ :=
  ⟨u, hr, ⟨[v], H⟩, weak_dfz hH (Nat.le_refl _) hB ⟨hf, trivial⟩, v, rfl, rfl, rfl⟩

/-- A call's new array, taken by value. -/
theorem NewF.fz {P : Program} {f : FuncId} {args : List AV} {H L : List AObj} {u v : AV} (h : NewF P f args H u L) (hf : Dfz H.length (H ++ L) u v) : QuietF P f args H v := by
  intro ρ w vs ha hh
  have hB := hh.below
  have one : ∀ (x : AEnd) (H' : List AObj) (ρ' : Nat → Nat) (e : Ending) (w' : World), (x = .ret u ∧ H' = H ++ L) → endIs ρ' H' w' x e → HeapOK ρ' H' w' → Ext H.length ρ H w ρ' H' w' → LandsC ρ H w (fun x H' => x = .ret v ∧ H' = H) e w' := by
    rintro x H' ρ' e w' ⟨rfl, rfl⟩ h2 h3 h4
    cases e with
    | returned c =>
      have hw := weak_dfz (T := [u]) (T' := [v]) rfl (Nat.le_refl _) hB ⟨hf, trivial⟩ ρ' w' { tmps := #[c], defers := [] } ⟨⟨rfl, fun k y hk => by
        match k, hk with
        | 0, hk => simp only [List.getElem?_cons_zero, Option.some.injEq] at hk; subst hk; exact h2
        | k + 1, hk => simp at hk⟩, h3⟩
      obtain ⟨ρ2, r2, e2⟩ := hw
      refine ⟨.ret v, H, ρ2, ⟨rfl, rfl⟩, ?_, r2.heap, h4.trans e2⟩
      have h0 := r2.tmps.2 0 v rfl
      have h1 : Rep ρ2 H w' v c := by simpa using h0
      exact h1
    | panicked c => exact h2.elim
    | _ => exact h2.elim
  rcases h ρ w vs ha hh with ⟨w1, h1, h2, h3⟩ | ⟨c, w', h1, x, H', ρ', h2, h3, h4, h5⟩
  · exact .inl ⟨w1, h1, h2, h3.mono fun e w' ⟨x, H', ρ', k1, k2, k3, k4⟩ => one x H' ρ' e w' k1 k2 k3 k4⟩
  · exact .inr ⟨c, w', h1, one x H' ρ' _ w' h2 h3 h4 h5⟩

end Go.Proofs.Ytamoclnnakdiaaa.Abs
