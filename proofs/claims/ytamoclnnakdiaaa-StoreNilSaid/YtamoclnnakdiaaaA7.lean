/-
  append: onto a slice that is nil or has no room, and onto a live array.
  Conditions: none.
-/
import Derived.Test.YtamoclnnakdiaaaA6
import Derived.Deep.AppendLies
namespace Go.Proofs.Ytamoclnnakdiaaa.Abs
open Go Go.RowKit
set_option linter.unusedVariables false
set_option linter.unusedSimpArgs false

/-- A slice type that can be appended to: its element type, cells and bytes. -/
def tap (P : Program) (t : TypeId) : Option (TypeId × Nat × Nat) :=
  match P.underlying t with
  | some (.slice e) =>
    match P.info? e with
    | some i =>
      match i.zero with
      | some z => if z.cells.size = i.size ∧ 0 < i.size ∧ 0 < i.bytes then some (e, i.size, i.bytes) else none
      | none => none
    | none => none
  | _ => none

def kAppend (P : Program) (t1 t2 : TypeId) (H : List AObj) (K : AV → List AObj → Prop) (x y : AV) : Prop :=
  t1 = t2 ∧
  match tap P t1, rowOf H y with
  | some (e, sz, by_), some ys =>
    (∀ z, z ∈ ys → z.cells.length = sz) ∧
    (match x with
     | .nils | .nilc => ys.length * by_ ≤ 140737488355328 ∧ K (.sl H.length 0 0 ys.length) (H ++ [.arr 0 e sz ys])
     | .sl id g off len =>
       match hget H id with
       | some (.arr g' e' sz' els) => g = g' ∧ e' = e ∧ sz' = sz ∧ off = 0 ∧ len = els.length ∧ (len + ys.length) * by_ ≤ 140737488355328 ∧
           K (.sl id (g + 1) 0 (len + ys.length)) (hset H id (.arr (g + 1) e sz (els ++ ys)))
       | _ => False
     | _ => False)
  | _, _ => False

theorem tap_spec {P : Program} {t e : TypeId} {sz by_ : Nat} (h : tap P t = some (e, sz, by_)) :
    ∃ i z, P.underlying t = some (.slice e) ∧ P.info? e = some i ∧ i.zero = some z ∧ z.cells.size = sz ∧ 0 < sz ∧ i.size = sz ∧ i.bytes = by_ ∧ 0 < by_ := by
  unfold tap at h
  split at h
  · rename_i e' hu
    split at h
    · rename_i i hi
      split at h
      · rename_i z hz
        split at h
        · rename_i hc
          cases h
          exact ⟨i, z, hu, hi, hz, hc.1, hc.2.1, rfl, rfl, hc.2.2⟩
        · cases h
      · cases h
    · cases h
  · cases h

/-- An empty slice without room is appended to as nil is. -/
theorem run_append_noroom {P : Program} (w : World) {t e : TypeId} {sz by_ : Nat} (h : tap P t = some (e, sz, by_)) (ty : TypeId) (a : Option Addr) (b : Option Addr) (m c : Nat) (hm : 0 < m) (hb : m * by_ ≤ 140737488355328) :
    (Builtin.append_ #[t, t] ty #[.slice a 0 0, .slice b m c]).run P w = (Builtin.append_ #[t, t] ty #[.slice none 0 0, .slice b m c]).run P w := by
  obtain ⟨i, z, hu, hi, hz, hzs, h0, hs, hby, hb0⟩ := tap_spec h
  cases a with
  | none => rfl
  | some a =>
    have hneed : ¬ (m ≤ 0) := by omega
    have hcap : ¬ (Builtin.nextslicecap m 0 * i.bytes > 2 ^ 48) := by
      have : Builtin.nextslicecap m 0 = m := by unfold Builtin.nextslicecap; simp [hm]
      rw [this, hby]
      omega
    have hl0 : (loadCells a 0).run P w = .ok #[] w := by simpa using run_loadCells_list (P := P) w a [] (by simp)
    have hl0' : ∀ w : World, (loadCells a 0).run P w = .ok #[] w := fun w => by simpa using run_loadCells_list (P := P) w a [] (by simp)
    have hm0 : ¬ (m = 0) := by omega
    have hby0 : ¬ (i.bytes = 0) := by omega
    simp [Builtin.append_, run_underlying hu, sizeOf, typeInfo, hi, Builtin.lenOf, Builtin.firstCells, hneed, hcap, hl0', hm0, hby0, Question.forced]

/-- The row that append reads, as the machine has it. -/
theorem news_of {ρ : Nat → Nat} {H : List AObj} {w : World} {ys : List AV} {sz : Nat} {b : Addr} {vals : Nat → Value} (hsz : ∀ y, y ∈ ys → y.cells.length = sz)
    (h : ∀ (k : Nat) (y : AV), (flat ys)[k]? = some y → w.cell? (b.add k) = some (vals k) ∧ (vals k).oneCell' = true ∧ Rep ρ H w y (vals k)) :
    ((List.range (ys.length * sz)).map vals).length = ys.length * sz ∧ (∀ (j : Nat) (u : Value), ((List.range (ys.length * sz)).map vals)[j]? = some u → w.cell? (b.add j) = some u) ∧
      (∀ u, u ∈ (List.range (ys.length * sz)).map vals → u.oneCell' = true) := by
  have hfl := flat_length hsz
  refine ⟨by simp, ?_, ?_⟩
  · intro j u hu
    have hj := lt_of_get hu
    simp only [List.length_map, List.length_range] at hj
    rw [List.getElem?_map, List.getElem?_range hj] at hu
    simp only [Option.map_some, Option.some.injEq] at hu
    subst hu
    exact (h j _ (List.getElem?_eq_getElem (by omega))).1
  · intro u hu
    obtain ⟨j, hj, rfl⟩ := List.mem_map.1 hu
    have hj' : j < ys.length * sz := by simpa using hj
    exact (h j _ (List.getElem?_eq_getElem (by omega))).2.1

/-- World w' is w but for block row; object id has a block of its own (gb) that holds els. -/
theorem yield_grown {P : Program} {s : Sem Value} {ρ : Nat → Nat} {H : List AObj} {w w' : World} {K : AV → List AObj → Prop} (hh : HeapOK ρ H w) {id g : Nat} {e : TypeId} {sz : Nat} {els0 els : List AV}
    (hid : H[id]? = some (.arr g e sz els0)) {row : Option Nat} (hg : w.grownBy w' row) (hrow : ∀ k, row = some k → els0 ≠ [] ∧ k = ρ id)
    {gb cap : Nat} {cur : Array Value} {v : Value} (hgb : (els0 ≠ [] ∧ gb = ρ id) ∨ gb = w.heap.size) (hne : els ≠ []) (hall : ∀ x, x ∈ els → x.cells.length = sz)
    (hc : w'.heap[gb]? = some (.cells cur e (0, 0))) (hcap : els.length ≤ cap) (hmx : cap ≤ maxLen) (hsz : cur.size = cap * sz)
    (hcells : ∀ (k : Nat) (x : AV), (flat els)[k]? = some x → (cur.getD k undef).oneCell' = true ∧ Rep ρ H w x (cur.getD k undef))
    (hrun : s.run P w = .ok (.slice (some ⟨gb, 0, none⟩) els.length cap) w') (hK : K (.sl id (g + 1) 0 els.length) (hset H id (.arr (g + 1) e sz els))) : Yield P s ρ H w K := by
  have hidlt := lt_of_get hid
  let ρ' : Nat → Nat := fun i => if i = id then gb else ρ i
  have hρid : ρ' id = gb := by simp [ρ']
  have hρne : ∀ j, j ≠ id → ρ' j = ρ j := fun j hj => by simp [ρ', hj]
  have hsame : ∀ (j : Nat) (o : AObj), j ≠ id → H[j]? = some o → o.live → w'.heap[ρ j]? = w.heap[ρ j]? := by
    intro j o hj ho hl
    refine hg.block _ (hh.lt ⟨j, o, ho, hl, rfl⟩) ?_
    intro hx
    obtain ⟨h1, h2⟩ := hrow _ hx.symm
    exact hj (hh.inj j id o _ ho hl hid h1 h2)
  have hext : Ext H.length ρ H w ρ' (hset H id (.arr (g + 1) e sz els)) w' := by
    refine ⟨hg.os, hg.tape, hg.output, hg.size, ?_, ?_, ?_⟩
    · intro b hb hm
      refine hg.block b hb (fun hx => ?_)
      obtain ⟨h1, h2⟩ := hrow b hx.symm
      exact hm ⟨id, _, hid, h1, h2.symm⟩
    · rintro b ⟨j, o, ho, hl, rfl⟩
      by_cases hj : j = id
      · subst hj
        rw [hρid]
        rcases hgb with ⟨h1, h2⟩ | h2
        · exact .inl ⟨j, _, hid, h1, h2.symm⟩
        · exact .inr (by omega)
      · rw [hρne j hj]
        unfold hset at ho
        rw [get_set_ne (fun h => hj h.symm)] at ho
        exact .inl ⟨j, o, ho, hl, rfl⟩
    · intro j o hj ho
      by_cases hji : j = id
      · subst hji
        rw [hid] at ho
        cases ho
        exact ⟨_, get_set_self hid, .grown g (g + 1) e e sz sz els0 els (by omega)⟩
      · refine ⟨o, by unfold hset; rw [get_set_ne (fun h => hji h.symm)]; exact ho, ?_⟩
        cases o with
        | var cs => exact .var cs cs rfl (hρne j hji)
        | arr g1 e1 sz1 els1 =>
          refine .arr g1 e1 sz1 els1 els1 rfl (hρne j hji) (fun hn1 cur1 e2 h1 => ⟨cur1, ?_, rfl⟩)
          rw [hsame j _ hji ho hn1]
          exact h1
        | loop st pend T1 ps asg body => exact .loop st st pend pend T1 ps asg body (hρne j hji)
        | dead => exact .dead
  refine ⟨_, w', _, _, ρ', hrun, hK, ?_, ?_, hext⟩
  · have := Rep.sl (ρ := ρ') (H := hset H id (.arr (g + 1) e sz els)) (w := w') id (g + 1) 0 els.length e sz els cap cur (get_set_self hid) hne (by omega) hcap (by omega) (by rw [hρid]; exact hc) (by rw [hsz]; congr 1; omega)
    rw [hρid, Nat.zero_mul] at this
    exact this
  · refine ⟨?_, ?_, ?_, ?_⟩
    · intro i j o p ho hol hp hpl hij
      unfold hset at ho hp
      by_cases hi : i = id
      · by_cases hj : j = id
        · omega
        · rw [get_set_ne (fun h => hj h.symm)] at hp
          rw [hi, hρid, hρne j hj] at hij
          rcases hgb with ⟨h1, h2⟩ | h2
          · exact absurd (hh.inj j id p _ hp hpl hid h1 (by omega)) hj
          · have := hh.lt ⟨j, p, hp, hpl, rfl⟩; omega
      · rw [get_set_ne (fun h => hi h.symm)] at ho
        by_cases hj : j = id
        · rw [hj, hρid, hρne i hi] at hij
          rcases hgb with ⟨h1, h2⟩ | h2
          · exact absurd (hh.inj i id o _ ho hol hid h1 (by omega)) hi
          · have := hh.lt ⟨i, o, ho, hol, rfl⟩; omega
        · rw [get_set_ne (fun h => hj h.symm)] at hp
          rw [hρne i hi, hρne j hj] at hij
          exact hh.inj i j o p ho hol hp hpl hij
    · intro j cs hj
      unfold hset at hj
      by_cases hji : j = id
      · subst hji; rw [get_set_self hid] at hj; cases hj
      · rw [get_set_ne (fun h => hji h.symm)] at hj
        obtain ⟨cur1, e1, h1, h2, h3⟩ := hh.var j cs hj
        rw [hρne j hji]
        exact ⟨cur1, e1, by rw [hsame j _ hji hj trivial]; exact h1, h2, fun k x hk => ⟨(h3 k x hk).1, (h3 k x hk).2.mono hext⟩⟩
    · intro j g1 e1 sz1 els1 hj
      unfold hset at hj
      by_cases hji : j = id
      · subst hji
        rw [get_set_self hid] at hj
        cases hj
        rw [hρid]
        exact ⟨hall, fun _ => ⟨cur, cap, hc, hcap, hmx, hsz, fun k x hk => ⟨(hcells k x hk).1, (hcells k x hk).2.mono hext⟩⟩⟩
      · rw [get_set_ne (fun h => hji h.symm)] at hj
        obtain ⟨h1, h2⟩ := hh.arr j g1 e1 sz1 els1 hj
        refine ⟨h1, fun hne1 => ?_⟩
        obtain ⟨cur1, cap1, h3, h4, h5, h6, h7⟩ := h2 hne1
        rw [hρne j hji]
        exact ⟨cur1, cap1, by rw [hsame j _ hji hj hne1]; exact h3, h4, h5, h6, fun k x hk => ⟨(h7 k x hk).1, (h7 k x hk).2.mono hext⟩⟩
    · intro j st pend T1 ps asg body hj
      unfold hset at hj
      by_cases hji : j = id
      · subst hji; rw [get_set_self hid] at hj; cases hj
      · rw [get_set_ne (fun h => hji h.symm)] at hj
        obtain ⟨fn, D, tmps, h1, h2, h3⟩ := hh.loop j st pend T1 ps asg body hj
        rw [hρne j hji]
        exact ⟨fn, D, tmps, by rw [hsame j _ hji hj trivial]; exact h1, h2, fun k x hk => (h3 k x hk).mono hext⟩

/-- An empty array without a block may be laid beside what there is, at any time. -/
theorem ext_emp {ρ : Nat → Nat} {H : List AObj} {w : World} (hh : HeapOK ρ H w) (g : Nat) (e : TypeId) (sz : Nat) :
    Ext H.length ρ H w ρ (H ++ [.arr g e sz []]) w ∧ HeapOK ρ (H ++ [.arr g e sz []]) w := by
  have hext : Ext H.length ρ H w ρ (H ++ [.arr g e sz []]) w := by
    refine ⟨rfl, rfl, rfl, Nat.le_refl _, fun _ _ _ => rfl, ?_, ?_⟩
    · rintro b ⟨j, o, ho, hl, rfl⟩
      rcases get_push ho with ⟨_, ho'⟩ | ⟨rfl, rfl⟩
      · exact .inl ⟨j, o, ho', hl, rfl⟩
      · exact absurd rfl hl
    · intro j o hj ho
      exact ⟨o, get_push_lt ho, .refl ρ w j o⟩
  refine ⟨hext, ?_, ?_, ?_, ?_⟩
  · intro i j o p ho hol hp hpl hij
    rcases get_push ho with ⟨_, ho'⟩ | ⟨rfl, rfl⟩
    · rcases get_push hp with ⟨_, hp'⟩ | ⟨rfl, rfl⟩
      · exact hh.inj i j o p ho' hol hp' hpl hij
      · exact absurd rfl hpl
    · exact absurd rfl hol
  · intro j cs hj
    rcases get_push hj with ⟨_, hj'⟩ | ⟨_, h⟩
    · obtain ⟨cur, e1, h1, h2, h3⟩ := hh.var j cs hj'
      exact ⟨cur, e1, h1, h2, fun k x hk => ⟨(h3 k x hk).1, (h3 k x hk).2.mono hext⟩⟩
    · cases h
  · intro j g1 e1 sz1 els1 hj
    rcases get_push hj with ⟨_, hj'⟩ | ⟨_, h⟩
    · obtain ⟨h1, h2⟩ := hh.arr j g1 e1 sz1 els1 hj'
      refine ⟨h1, fun hne => ?_⟩
      obtain ⟨cur, cap, h3, h4, h5, h6, h7⟩ := h2 hne
      exact ⟨cur, cap, h3, h4, h5, h6, fun k x hk => ⟨(h7 k x hk).1, (h7 k x hk).2.mono hext⟩⟩
    · cases h
      exact ⟨fun x hx => by simp at hx, fun h => absurd rfl h⟩
  · intro j st pend T1 ps asg body hj
    rcases get_push hj with ⟨_, hj'⟩ | ⟨_, h⟩
    · obtain ⟨fn, D, tmps, h1, h2, h3⟩ := hh.loop j st pend T1 ps asg body hj'
      exact ⟨fn, D, tmps, h1, h2, fun k x hk => (h3 k x hk).mono hext⟩
    · cases h

theorem flat_append (xs ys : List AV) : flat (xs ++ ys) = flat xs ++ flat ys := by simp [flat]

theorem kAppend_sound {P : Program} {t1 t2 ty : TypeId} {H : List AObj} {K : AV → List AObj → Prop} {x y : AV} {v u : Value} {ρ : Nat → Nat} {w : World}
    (h : kAppend P t1 t2 H K x y) (hx : Rep ρ H w x v) (hy : Rep ρ H w y u) (hh : HeapOK ρ H w) : Yield P (Builtin.append_ #[t1, t2] ty #[v, u]) ρ H w K := by
  obtain ⟨rfl, h⟩ := h
  split at h
  · rename_i e sz by_ ys htap hro
    obtain ⟨hall, h⟩ := h
    obtain ⟨i, z, hu, hi, hz, hzs, h0, hs, hby, hb0⟩ := tap_spec htap
    obtain ⟨ua, uc, rfl, hread⟩ := rowOf_read hy hro hh
    -- nothing to append
    have run0 : ∀ (a : Option Addr) (n c : Nat), n ≤ c → (Builtin.append_ #[t1, t1] ty #[.slice a n c, .slice ua 0 uc]).run P w = .ok (.slice a n c) w := by
      intro a n c hnc
      have hl0 : ∀ (b : Addr), (loadCells b 0).run P w = .ok #[] w := fun b => by simpa using run_loadCells_list (P := P) w b [] (by simp)
      have hf : (Builtin.firstCells i.size 0 (.slice ua 0 uc)).run P w = .ok #[] w := by
        cases ua with
        | none => simp [Builtin.firstCells]
        | some b => simp [Builtin.firstCells, hl0]
      cases a with
      | none => simp [Builtin.append_, run_underlying hu, sizeOf, typeInfo, hi, Builtin.lenOf, hnc, hf]
      | some b => simp [Builtin.append_, run_underlying hu, sizeOf, typeInfo, hi, Builtin.lenOf, hnc, hf, storeCells]
    -- something to append: the law of the kit
    have runm : ∀ (v0 : Value) (n : Nat) (xs : List Value), w.ownsRow 0 e sz v0 n xs → ys ≠ [] → (n + ys.length) * by_ ≤ 140737488355328 →
        ∃ (b : Addr) (vals : Nat → Value) (g cap : Nat) (w' : World), ua = some b ∧ (∀ (k : Nat) (y : AV), (flat ys)[k]? = some y → (vals k).oneCell' = true ∧ Rep ρ H w y (vals k)) ∧
          (Builtin.append_ #[t1, t1] ty #[v0, .slice ua ys.length uc]).run P w = .ok (.slice (some ⟨g, 0, none⟩) (n + ys.length) cap) w' ∧
          w'.ownsRow 0 e sz (.slice (some ⟨g, 0, none⟩) (n + ys.length) cap) (n + ys.length) (xs ++ (List.range (ys.length * sz)).map vals) ∧ w.grownBy w' v0.ownBlock ∧ (v0.ownBlock = some g ∨ g = w.heap.size) := by
      intro v0 n xs hown hne hbytes
      rcases hread with hx0 | ⟨b, sz', vals, rfl, hsz', hcells⟩
      · exact absurd hx0 hne
      · obtain ⟨y0, hy0⟩ := List.exists_mem_of_ne_nil ys hne
        have : sz' = sz := by rw [← hsz' y0 hy0, hall y0 hy0]
        subst this
        obtain ⟨n1, n2, n3⟩ := news_of hall hcells
        have hpos : 0 < ys.length := List.length_pos_iff.2 hne
        have h63 : n + ys.length ≤ maxLen := by
          have : (n + ys.length) * 1 ≤ (n + ys.length) * by_ := Nat.mul_le_mul_left _ hb0
          unfold maxLen
          omega
        obtain ⟨g, cap, w', r1, r2, r3, r4, r5⟩ := run_append_lies (P := P) w t1 ty 0 e i z sz' by_ hu hi hz hs hby hzs h0 v0 n xs hown b ys.length uc _ n1 n2 n3 hpos h63 hbytes (Nat.zero_le _) w.heap.size rfl
        exact ⟨b, vals, g, cap, w', rfl, fun k y hk => (hcells k y hk).2, r1, r2, r3, r4⟩
    have emp0 : ∀ (a : Option Addr), v = .slice a 0 0 → ys.length * by_ ≤ 140737488355328 → K (.sl H.length 0 0 ys.length) (H ++ [.arr 0 e sz ys]) → Yield P (Builtin.append_ #[t1, t1] ty #[v, .slice ua ys.length uc]) ρ H w K := by
      intro a hva hb hK
      subst hva
      obtain ⟨he1, he2⟩ := ext_emp hh 0 e sz
      by_cases hne : ys = []
      · subst hne
        refine ⟨_, w, _, _, ρ, run0 a 0 0 (Nat.le_refl _), hK, ?_, he2, he1⟩
        exact .sl_emp H.length 0 e sz a (by rw [List.getElem?_append_right (Nat.le_refl _)]; simp)
      · have hpos : 0 < ys.length := List.length_pos_iff.2 hne
        have hnr := run_append_noroom w htap ty a ua ys.length uc hpos hb
        obtain ⟨b, vals, g, cap, w', rfl, hv, r1, r2, r3, r4⟩ := runm (.slice none 0 0) 0 [] ⟨by simp, .inl ⟨rfl, rfl⟩⟩ hne (by simpa using hb)
        rw [Nat.zero_add] at r1 r2
        rw [List.nil_append] at r2
        rcases r2.2 with ⟨hno, _⟩ | ⟨g', cap', cur, hv', _, hc, hcap, hmx, hsz, htake⟩
        · cases hno
        · cases hv'
          have hg : g = w.heap.size := by
            rcases r4 with h4 | h4
            · simp [Value.ownBlock] at h4
            · exact h4
          subst hg
          have hvals : ∀ (k : Nat) (x : AV), (flat ys)[k]? = some x → cur.getD k undef = vals k := by
            intro k x hk
            have hlt := lt_of_get hk
            rw [flat_length hall] at hlt
            have : cur.toList[k]? = some (vals k) := by
              have h1 : (cur.toList.take (ys.length * sz))[k]? = some (vals k) := by rw [htake, List.getElem?_map, List.getElem?_range hlt]; rfl
              rwa [List.getElem?_take, if_pos hlt] at h1
            rw [arr_getD, List.getD_eq_getElem?_getD, this]
            rfl
          have hext := ext_push (w' := w') (p := .arr 0 e sz ys) (b := w.heap.size) hh (Nat.le_refl _) r3.os r3.tape r3.output r3.size (fun k hk => r3.block k hk (by simp [Value.ownBlock]))
          refine ⟨_, w', _, _, nu ρ H.length w.heap.size, by rw [hnr]; exact r1, hK, ?_, ?_, hext⟩
          · have := Rep.sl (ρ := nu ρ H.length w.heap.size) (H := H ++ [.arr 0 e sz ys]) (w := w') H.length 0 0 ys.length e sz ys cap cur (by rw [List.getElem?_append_right (Nat.le_refl _)]; simp) hne (by omega) hcap (by omega) (by rw [nu_self]; exact hc) (by rw [hsz]; congr 1; omega)
            rw [nu_self, Nat.zero_mul] at this
            exact this
          · refine heapOK_push hh (Nat.le_refl _) (fun k hk => r3.block k hk (by simp [Value.ownBlock])) hext (fun cs hc1 => by cases hc1) ?_
            intro g1 e1 sz1 els1 hc1
            cases hc1
            exact ⟨hall, fun _ => ⟨cur, cap, hc, hcap, hmx, hsz, fun k x hk => by rw [hvals k x hk]; exact hv k x hk⟩⟩
    split at h
    · obtain ⟨hb, hK⟩ := h
      cases hx with
      | nils => exact emp0 none rfl hb hK
    · obtain ⟨hb, hK⟩ := h
      cases hx with
      | nilc a => exact emp0 a rfl hb hK
    · -- onto a live array
      rename_i id g off len
      split at h
      · rename_i g' e' sz' els hid
        obtain ⟨rfl, rfl, rfl, rfl, hlen, hb, hK⟩ := h
        unfold hget at hid
        by_cases hne : ys = []
        · -- nothing: the array counts as grown all the same
          subst hne
          rw [List.append_nil, List.length_nil, Nat.add_zero] at hK
          have hext : Ext H.length ρ H w ρ (hset H id (.arr (g + 1) e' sz' els)) w := by
            refine ⟨rfl, rfl, rfl, Nat.le_refl _, fun _ _ _ => rfl, ?_, ?_⟩
            · rintro b ⟨j, o, ho, hl, rfl⟩
              unfold hset at ho
              by_cases hj : id = j
              · subst hj
                rw [get_set_self hid] at ho
                cases ho
                exact .inl ⟨id, _, hid, hl, rfl⟩
              · rw [get_set_ne hj] at ho
                exact .inl ⟨j, o, ho, hl, rfl⟩
            · intro j o hj ho
              by_cases hji : id = j
              · subst hji
                rw [hid] at ho
                cases ho
                exact ⟨_, get_set_self hid, .grown g (g + 1) e' e' sz' sz' els els (by omega)⟩
              · exact ⟨o, by unfold hset; rw [get_set_ne hji]; exact ho, .refl ρ w j o⟩
          have hh' : HeapOK ρ (hset H id (.arr (g + 1) e' sz' els)) w := by
            refine ⟨?_, ?_, ?_, ?_⟩
            · intro a b o p ho hol hp hpl hab
              unfold hset at ho hp
              have fix : ∀ (c : Nat) (q : AObj), (H.set id (.arr (g + 1) e' sz' els))[c]? = some q → q.live → ∃ q' : AObj, H[c]? = some q' ∧ q'.live := by
                intro c q hq hql
                by_cases hc : id = c
                · subst hc; rw [get_set_self hid] at hq; cases hq; exact ⟨_, hid, hql⟩
                · rw [get_set_ne hc] at hq; exact ⟨q, hq, hql⟩
              obtain ⟨o', ho', hol'⟩ := fix a o ho hol
              obtain ⟨p', hp', hpl'⟩ := fix b p hp hpl
              exact hh.inj a b o' p' ho' hol' hp' hpl' hab
            · intro j cs hj
              unfold hset at hj
              by_cases hji : id = j
              · subst hji; rw [get_set_self hid] at hj; cases hj
              · rw [get_set_ne hji] at hj
                obtain ⟨cur1, e1, h1, h2, h3⟩ := hh.var j cs hj
                exact ⟨cur1, e1, h1, h2, fun k x hk => ⟨(h3 k x hk).1, (h3 k x hk).2.mono hext⟩⟩
            · intro j g1 e1 sz1 els1 hj
              unfold hset at hj
              have all : ∀ (g2 : Nat), H[j]? = some (.arr g2 e1 sz1 els1) → (∀ x, x ∈ els1 → x.cells.length = sz1) ∧ (els1 ≠ [] → ∃ (cur : Array Value) (cap : Nat), w.heap[ρ j]? = some (.cells cur e1 (0, 0)) ∧ els1.length ≤ cap ∧ cap ≤ maxLen ∧ cur.size = cap * sz1 ∧
                  ∀ (k : Nat) (x : AV), (flat els1)[k]? = some x → (cur.getD k undef).oneCell' = true ∧ Rep ρ (hset H id (.arr (g + 1) e' sz' els)) w x (cur.getD k undef)) := by
                intro g2 hj2
                obtain ⟨h1, h2⟩ := hh.arr j g2 e1 sz1 els1 hj2
                refine ⟨h1, fun hne1 => ?_⟩
                obtain ⟨cur1, cap1, h3, h4, h5, h6, h7⟩ := h2 hne1
                exact ⟨cur1, cap1, h3, h4, h5, h6, fun k x hk => ⟨(h7 k x hk).1, (h7 k x hk).2.mono hext⟩⟩
              by_cases hji : id = j
              · subst hji
                rw [get_set_self hid] at hj
                cases hj
                exact all g hid
              · rw [get_set_ne hji] at hj
                exact all g1 hj
            · intro j st pend T1 ps asg body hj
              unfold hset at hj
              by_cases hji : id = j
              · subst hji; rw [get_set_self hid] at hj; cases hj
              · rw [get_set_ne hji] at hj
                obtain ⟨fn, D, tmps, h1, h2, h3⟩ := hh.loop j st pend T1 ps asg body hj
                exact ⟨fn, D, tmps, h1, h2, fun k x hk => (h3 k x hk).mono hext⟩
          cases hx with
          | sl _ _ _ _ e1 sz1 els1 cap cur k1 k2 k3 k4 k5 k6 k7 =>
            rw [k1] at hid
            cases hid
            refine ⟨_, w, _, _, ρ, run0 _ _ cap k4, hK, ?_, hh', hext⟩
            exact .sl id (g + 1) 0 len e' sz' els cap cur (get_set_self k1) k2 k3 k4 k5 k6 k7
          | sl_emp _ _ e1 sz1 a k1 =>
            rw [k1] at hid
            cases hid
            refine ⟨_, w, _, _, ρ, run0 a 0 0 (Nat.le_refl _), hK, ?_, hh', hext⟩
            exact .sl_emp id (g + 1) e' sz' a (get_set_self k1)
          | sl_stale _ _ _ _ a n c hs =>
            rcases hs with ⟨g2, e2, sz2, els2, q1, q2⟩ | q1
            · rw [q1] at hid; cases hid; omega
            · rw [q1] at hid; cases hid
        · have hall2 : ∀ x, x ∈ els ++ ys → x.cells.length = sz' := by
            intro x hx'
            rcases List.mem_append.1 hx' with h1 | h1
            · exact (hh.arr id g e' sz' els hid).1 x h1
            · exact hall x h1
          have hne2 : els ++ ys ≠ [] := by simp [hne]
          have hpos : 0 < ys.length := List.length_pos_iff.2 hne
          have fin : ∀ (cur : Array Value) (xs : List Value) (vals : Nat → Value), xs.length = els.length * sz' → (∀ (k : Nat) (x : AV), (flat els)[k]? = some x → (xs.getD k undef).oneCell' = true ∧ Rep ρ H w x (xs.getD k undef)) →
              (∀ (k : Nat) (y : AV), (flat ys)[k]? = some y → (vals k).oneCell' = true ∧ Rep ρ H w y (vals k)) → cur.toList.take ((els.length + ys.length) * sz') = xs ++ (List.range (ys.length * sz')).map vals →
              ∀ (k : Nat) (x : AV), (flat (els ++ ys))[k]? = some x → (cur.getD k undef).oneCell' = true ∧ Rep ρ H w x (cur.getD k undef) := by
            intro cur xs vals hxl h1 h2 htake k x hk
            have hlt := lt_of_get hk
            rw [flat_length hall2, List.length_append] at hlt
            have hcur : cur.toList[k]? = (xs ++ (List.range (ys.length * sz')).map vals)[k]? := by rw [← htake, List.getElem?_take, if_pos hlt]
            have hfe : (flat els).length = els.length * sz' := flat_length (hh.arr id g e' sz' els hid).1
            rw [arr_getD, List.getD_eq_getElem?_getD, hcur]
            rw [flat_append] at hk
            by_cases hkl : k < els.length * sz'
            · rw [List.getElem?_append_left (by omega)] at hk
              rw [List.getElem?_append_left (by omega)]
              have := h1 k x hk
              rwa [List.getD_eq_getElem?_getD] at this
            · rw [List.getElem?_append_right (by omega), hfe] at hk
              rw [List.getElem?_append_right (by omega), hxl, List.getElem?_map, List.getElem?_range (by have := Nat.add_mul els.length ys.length sz'; omega)]
              exact h2 _ x hk
          cases hx with
          | sl _ _ _ _ e1 sz1 els1 cap cur k1 k2 k3 k4 k5 k6 k7 =>
            rw [k1] at hid
            cases hid
            subst hlen
            rw [Nat.zero_mul]
            obtain ⟨cur0, cap0, c1, c2, c3, c4, c5⟩ := (hh.arr id g e' sz' els k1).2 k2
            rw [k6] at c1
            cases c1
            have hfe : (flat els).length = els.length * sz' := flat_length (hh.arr id g e' sz' els k1).1
            have hm : els.length * sz' ≤ cap0 * sz' := Nat.mul_le_mul_right _ c2
            have hown : w.ownsRow 0 e' sz' (.slice (some ⟨ρ id, 0, none⟩) els.length cap) els.length (cur.toList.take (els.length * sz')) :=
              ⟨by have := Array.length_toList (xs := cur); rw [List.length_take]; omega, .inr ⟨ρ id, cap, cur, rfl, Nat.zero_le _, k6, k4, by omega, by rw [k7, Nat.zero_add], rfl⟩⟩
            obtain ⟨b, vals, gb, cap', w', rfl, hv, r1, r2, r3, r4⟩ := runm _ els.length _ hown hne hb
            rcases r2.2 with ⟨hno, _⟩ | ⟨g2, cap2, cur2, hv', _, hc, hcap, hmx, hsz, htake⟩
            · cases hno
            · cases hv'
              refine yield_grown hh k1 (row := some (ρ id)) r3 (fun k hk => ⟨k2, by cases hk; rfl⟩) (gb := gb) (cap := cap') (cur := cur2) (v := .nilFunc) ?_ hne2 hall2 hc (by rw [List.length_append]; exact hcap) hmx hsz ?_ (by rw [List.length_append]; exact r1) (by rw [List.length_append]; exact hK)
              · rcases r4 with h4 | h4
                · simp only [Value.ownBlock, Option.some.injEq] at h4; exact .inl ⟨k2, h4.symm⟩
                · exact .inr h4
              · refine fin cur2 _ vals (by have := Array.length_toList (xs := cur); rw [List.length_take]; omega) ?_ hv htake
                intro k x hk
                have hlt := lt_of_get hk
                have := c5 k x hk
                rw [arr_getD] at this
                rwa [List.getD_eq_getElem?_getD, List.getElem?_take, if_pos (by omega), ← List.getD_eq_getElem?_getD]
          | sl_emp _ _ e1 sz1 a k1 =>
            rw [k1] at hid
            cases hid
            have hnr := run_append_noroom w htap ty a ua ys.length uc hpos (by simpa using hb)
            obtain ⟨b, vals, gb, cap', w', rfl, hv, r1, r2, r3, r4⟩ := runm (.slice none 0 0) 0 [] ⟨by simp, .inl ⟨rfl, rfl⟩⟩ hne (by simpa using hb)
            rcases r2.2 with ⟨hno, _⟩ | ⟨g2, cap2, cur2, hv', _, hc, hcap, hmx, hsz, htake⟩
            · cases hno
            · cases hv'
              refine yield_grown hh k1 (row := none) r3 (fun k hk => by cases hk) (gb := gb) (cap := cap') (cur := cur2) (v := .nilFunc) ?_ hne2 hall2 hc (by rw [List.length_append]; exact hcap) hmx hsz ?_ (by rw [hnr, List.length_append]; exact r1) (by rw [List.length_append]; exact hK)
              · rcases r4 with h4 | h4
                · simp [Value.ownBlock] at h4
                · exact .inr h4
              · refine fin cur2 [] vals (by simp) ?_ hv htake
                intro k x hk
                simp [flat] at hk
          | sl_stale _ _ _ _ a n c hs =>
            rcases hs with ⟨g2, e2, sz2, els2, q1, q2⟩ | q1
            · rw [q1] at hid; cases hid; omega
            · rw [q1] at hid; cases hid
      · exact h.elim
    · exact h.elim
  · exact h.elim

end Go.Proofs.Ytamoclnnakdiaaa.Abs
