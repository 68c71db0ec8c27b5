/-
  Regions whose order Go leaves open: the two rules in use.
  Conditions: none.
-/
import Derived.Test.YtamoclnnakdiaaaA10
namespace Go.Proofs.Ytamoclnnakdiaaa.Abs
open Go Go.RowKit
set_option linter.unusedVariables false
set_option linter.unusedSimpArgs false

def dstsIn (ops : Array Oper) (n : Nat) : Bool := ops.toList.all fun o => match o.dst with | some d => decide (d < n) | none => true

/-- Operations that turn nothing, in the text's order. -/
def quiK (P : Program) (ops : Array Oper) (H : List AObj) (K : List AV → Prop) : List Oper → List AV → Prop
  | [], T => K T
  | o :: os, T => guardK (wantedA ops T o) (∃ v, oneK P o T H (fun x H' => x = v ∧ H' = H) (fun _ _ => False) ∧ quiK P ops H K os (put T o.dst v)) (quiK P ops H K os (put T o.dst (.tuple [])))

theorem put_length (T : List AV) (d : Option Tmp) (v : AV) : (put T d v).length = T.length := by cases d <;> simp [put, putT_eq]

theorem look_put_ne {T : List AV} {d : Option Tmp} {v : AV} {t : Nat} (h : d ≠ some t) : look (put T d v) t = look T t := by
  cases d with
  | none => rfl
  | some d =>
    simp only [put, putT_eq, look_eq, List.getD_eq_getElem?_getD]
    rw [List.getElem?_set_ne (fun hx => h (by rw [hx]))]

theorem look_put_eq {T : List AV} {d : Nat} {v : AV} (h : d < T.length) : look (put T (some d) v) d = v := by
  simp only [put, putT_eq, look_eq, List.getD_eq_getElem?_getD]
  rw [List.getElem?_set_self h]
  rfl

section
variable {P : Program} {ops : Array Oper} {E : List Nat}

theorem slots_ev {T Tf : List AV} {o : Oper} (h : ∀ t, t ∈ slotsOf ops o → look Tf t = look T t) : (∀ x, x ∈ o.op.operands.toList → ev T x = ev Tf x) ∧ wantedA ops T o = wantedA ops Tf o := by
  refine ⟨?_, ?_⟩
  · intro x hx
    cases x with
    | tmp t => exact (h t (List.mem_append_left _ (List.mem_filterMap.2 ⟨_, hx, rfl⟩))).symm
    | const v => rfl
    | global g => rfl
    | func f => rfl
  · unfold wantedA
    cases hg : o.guard with
    | none => rfl
    | some jw =>
      obtain ⟨j, want⟩ := jw
      simp only []
      cases hdj : (ops[j]?).bind (·.dst) with
      | none => rfl
      | some d =>
        simp only []
        rw [h d (List.mem_append_right _ (by rw [hg]; simp [hdj]))]

theorem quiK_chk {H : List AObj} {K : List AV → Prop} (hd : DrawSt ops []) {n : Nat} (hin : dstsIn ops n = true) : ∀ (l : List Oper) (i : Nat) (T : List AV), ops.toList.drop i = l → T.length = n → quiK P ops H K l T →
    ∃ Tf, K Tf ∧ Tf.length = n ∧ (∀ t, (∀ (j : Nat) (o : Oper), i ≤ j → ops[j]? = some o → o.dst ≠ some t) → look Tf t = look T t) ∧
      (∀ (j : Nat) (o : Oper), i ≤ j → ops[j]? = some o → chkOne P ops [] [H] Tf j o) := by
  intro l
  induction l with
  | nil =>
    intro i T hl hn h
    refine ⟨T, h, hn, fun _ _ => rfl, ?_⟩
    intro j o hj ho
    have h1 := get_lt ho
    have h2 : ops.toList.length ≤ i := by
      have := congrArg List.length hl
      rw [List.length_drop, List.length_nil] at this
      omega
    rw [Array.length_toList] at h2
    omega
  | cons o os ih =>
    intro i T hl hn h
    have hoi : ops[i]? = some o := by
      have : (ops.toList.drop i)[0]? = some o := by rw [hl]; rfl
      rw [List.getElem?_drop] at this
      simpa using this
    have hos : ops.toList.drop (i + 1) = os := by
      have : (ops.toList.drop i).drop 1 = os := by rw [hl]; rfl
      rwa [List.drop_drop] at this
    have hdlt : ∀ d, o.dst = some d → d < n := by
      intro d hdd
      unfold dstsIn at hin
      rw [List.all_eq_true] at hin
      have := hin o (by rw [Array.mem_toList_iff]; exact Array.mem_of_getElem? hoi)
      rw [hdd] at this
      simpa using this
    simp only [quiK] at h
    have step : ∀ (v : AV), quiK P ops H K os (put T o.dst v) → (∀ Tf : List AV, (∀ t, t ∈ slotsOf ops o → look Tf t = look T t) → dstIs o Tf v → chkOne P ops [] [H] Tf i o) →
        ∃ Tf, K Tf ∧ Tf.length = n ∧ (∀ t, (∀ (j : Nat) (o : Oper), i ≤ j → ops[j]? = some o → o.dst ≠ some t) → look Tf t = look T t) ∧ (∀ (j : Nat) (o : Oper), i ≤ j → ops[j]? = some o → chkOne P ops [] [H] Tf j o) := by
      intro v hq hc
      obtain ⟨Tf, k1, k2, k3, k4⟩ := ih (i + 1) _ hos (by rw [put_length]; exact hn) hq
      have hkeep : ∀ t, (∀ (j : Nat) (p : Oper), i ≤ j → ops[j]? = some p → p.dst ≠ some t) → look Tf t = look T t := by
        intro t ht
        rw [k3 t (fun j p hj hp => ht j p (by omega) hp), look_put_ne (ht i o (Nat.le_refl _) hoi)]
      refine ⟨Tf, k1, k2, hkeep, ?_⟩
      intro j p hj hp
      rcases Nat.lt_or_ge i j with h1 | h1
      · exact k4 j p (by omega) hp
      · obtain rfl : i = j := by omega
        rw [hoi] at hp
        cases hp
        refine hc Tf (fun t ht => hkeep t (fun j p hj hp hpd => ?_)) ?_
        · have := hd.slot i o hoi t ht j p hp hpd
          have := hd.lt i o hoi j this
          omega
        · unfold dstIs
          cases hdst : o.dst with
          | none => trivial
          | some d =>
            simp only []
            rw [k3 d (fun j p hj hp hpd => by
              have := hd.uniq i j o p d hoi hp hdst hpd
              omega), hdst, look_put_eq (by rw [hn]; exact hdlt d hdst)]
    cases hw : wantedA ops T o with
    | none => rw [hw] at h; exact h.elim
    | some b =>
      rw [hw] at h
      cases b with
      | true =>
        simp only [guardK] at h
        obtain ⟨v, h1, h2⟩ := h
        refine step v h2 (fun Tf hs hv => ?_)
        obtain ⟨e1, e2⟩ := slots_ev (ops := ops) hs
        unfold chkOne chkV
        rw [← e2, hw]
        simp only [guardK, List.findIdx?_nil]
        refine ⟨v, hv, ?_⟩
        intro k _ hk2
        have hk0 : k = 0 := by simpa [hiE] using hk2
        subst hk0
        exact oneK_congr e1 h1
      | false =>
        simp only [guardK] at h
        refine step _ h (fun Tf hs hv => ?_)
        obtain ⟨e1, e2⟩ := slots_ev (ops := ops) hs
        unfold chkOne chkV
        rw [← e2, hw]
        simp only [guardK, List.findIdx?_nil]
        exact ⟨hv, trivial⟩

theorem getD_bool {l : Array Bool} {n i : Nat} (h : l = Array.replicate n false) : l.getD i false = false := by
  subst h
  simp only [Array.getD_eq_getD_getElem?, Array.getElem?_replicate]
  split <;> rfl

/-- The start of a region that draws. -/
theorem awp_drawL {rd : Bool} {m id : Nat} {Q : AExit → AState → Prop} {T Tf : List AV} {H : List AObj} {hs : List (List AObj)} (hmix : P.follows .mixedOrders = true) (hd : DrawL ops E) (h0 : hs.getD 0 [] = H)
    (hlen : Tf.length = T.length) (hkeep : ∀ t, (∀ (j : Nat) (o : Oper), ops[j]? = some o → o.dst ≠ some t) → look Tf t = look T t)
    (hchk : ∀ (i : Nat) (o : Oper), ops[i]? = some o → chkV P ops E hs Tf (vw ops T Tf o) i o) (hm : ∀ k, k ≤ E.length → m ≤ (hs.getD k []).length)
    (hnd : ∀ (x y : Nat), x < E.length → y < E.length → E.getD x 0 = E.getD y 0 → x = y) (hq : Q .normal ⟨Tf, hs.getD E.length []⟩) : AWP P rd m (.region id ops true) Q ⟨T, H⟩ := by
  intro r hrd ρ w a hr
  refine wpIn_region_any hmix ?_
  have hl0 : ∀ i, (Array.replicate ops.size false).getD i false = false := fun i => getD_bool rfl
  have hc0 : countE E (Array.replicate ops.size false) = 0 := by
    unfold countE
    rw [List.length_eq_zero_iff, List.filter_eq_nil_iff]
    intro e _
    rw [hl0 e]
    simp
  have htd0 : tdl ops T Tf (Array.replicate ops.size false) = T := by
    apply List.ext_getElem?
    intro t
    unfold tdl
    rw [List.getElem?_map]
    rcases Nat.lt_or_ge t T.length with h | h
    · rw [List.getElem?_range h, Option.map_some, List.getElem?_eq_getElem h]
      congr 1
      unfold td
      rw [if_neg (by
        rintro ⟨j, o, _, _, hl⟩
        rw [hl0 j] at hl
        cases hl), look_eq, List.getD_eq_getElem?_getD, List.getElem?_eq_getElem h]
      rfl
    · rw [List.getElem?_eq_none (by simpa using h), List.getElem?_eq_none h]
      rfl
  have hdr : HeapOK ρ H { w with drawn := w.drawn + 1 } ∧ RepL ρ H { w with drawn := w.drawn + 1 } T a.tmps ∧ Ext H.length ρ H w ρ H { w with drawn := w.drawn + 1 } := by
    have he : Ext H.length ρ H w ρ H { w with drawn := w.drawn + 1 } :=
      ⟨rfl, rfl, rfl, Nat.le_refl _, fun _ _ _ => rfl, fun b hb => .inl hb, fun id o _ ho => ⟨o, ho, by
        cases o with
        | var cs => exact .var cs cs rfl rfl
        | arr g e sz els => exact .arr g e sz els els rfl rfl (fun _ cur e h => ⟨cur, h, rfl⟩)
        | loop st pend T1 ps asg body => exact .loop st st pend pend T1 ps asg body rfl
        | dead => exact .dead⟩⟩
    refine ⟨⟨hr.heap.inj, ?_, ?_, ?_⟩, hr.tmps.mono he, he⟩
    · intro id cs hid
      obtain ⟨cur, e, h1, h2, h3⟩ := hr.heap.var id cs hid
      exact ⟨cur, e, h1, h2, fun k x hk => ⟨(h3 k x hk).1, (h3 k x hk).2.mono he⟩⟩
    · intro id g e sz els hid
      obtain ⟨h1, h2⟩ := hr.heap.arr id g e sz els hid
      refine ⟨h1, fun hne => ?_⟩
      obtain ⟨cur, cap, h3, h4, h5, h6, h7⟩ := h2 hne
      exact ⟨cur, cap, h3, h4, h5, h6, fun k x hk => ⟨(h7 k x hk).1, (h7 k x hk).2.mono he⟩⟩
    · intro id st pend T1 ps asg body hid
      obtain ⟨fn, D, tmps, h1, h2, h3⟩ := hr.heap.loop id st pend T1 ps asg body hid
      exact ⟨fn, D, tmps, h1, h2, fun k x hk => (h3 k x hk).mono he⟩
  have hmH : m ≤ H.length := by rw [← h0]; exact hm 0 (Nat.zero_le _)
  refine wpAny_draw (P := P) (hs := hs) (T := T) (Tf := Tf) hd hlen hkeep hchk m ρ H w hm hnd ?_ ops.size (Array.replicate ops.size false) a _ ρ (by simp) ?_ ?_ ?_ ?_ rfl ?_
  · intro ρ' w' a' k1 k2 k3 k4
    exact ⟨.normal, ⟨Tf, hs.getD E.length []⟩, ρ', hq, trivial, ⟨k1, k2⟩, k4, by rw [k3]; exact .refl _ _ _ _ _⟩
  · intro i o ho hl
    exfalso
    have hi := get_lt ho
    simp only [Array.getD_eq_getD_getElem?, Array.getElem?_replicate, hi, if_true, Option.getD_some] at hl
    cases hl
  · have : ((List.range ops.size).filter fun i => !(Array.replicate ops.size false).getD i true) = List.range ops.size := by
      refine List.filter_eq_self.2 (fun i hi => ?_)
      have hi' := List.mem_range.1 hi
      simp [Array.getD_eq_getD_getElem?, Array.getElem?_replicate, hi']
    rw [this, List.length_range]
  · rw [hc0, h0, htd0]
    exact hdr.2.1
  · rw [hc0, h0]; exact hdr.1
  · rw [hc0, h0]; exact hdr.2.2.mono hmH

theorem chkV_congr {hs : List (List AObj)} {Tf Tv Tw : List AV} {i : Nat} {o : Oper} (h : ∀ t, t ∈ slotsOf ops o → look Tw t = look Tv t) (hc : chkV P ops E hs Tf Tv i o) : chkV P ops E hs Tf Tw i o := by
  obtain ⟨e1, e2⟩ := slots_ev (ops := ops) h
  unfold chkV at hc ⊢
  rw [← e2]
  cases hw : wantedA ops Tv o with
  | none => rw [hw] at hc; exact hc.elim
  | some b =>
    rw [hw] at hc
    cases b with
    | false => exact hc
    | true =>
      simp only [guardK] at hc ⊢
      obtain ⟨v, hv, hc⟩ := hc
      refine ⟨v, hv, ?_⟩
      cases hf : E.findIdx? (· == i) with
      | some k => rw [hf] at hc; exact oneK_congr e1 hc
      | none => rw [hf] at hc; exact fun k a b => oneK_congr e1 (hc k a b)

/-- The start of a region that draws: each operation asked at the slots as they are in the end. -/
theorem awp_draw {rd : Bool} {m id : Nat} {Q : AExit → AState → Prop} {T Tf : List AV} {H : List AObj} {hs : List (List AObj)} (hmix : P.follows .mixedOrders = true) (hd : DrawSt ops E) (h0 : hs.getD 0 [] = H)
    (hlen : Tf.length = T.length) (hkeep : ∀ t, (∀ (j : Nat) (o : Oper), ops[j]? = some o → o.dst ≠ some t) → look Tf t = look T t)
    (hchk : ∀ (i : Nat) (o : Oper), ops[i]? = some o → chkOne P ops E hs Tf i o) (hm : ∀ k, k ≤ E.length → m ≤ (hs.getD k []).length)
    (hnd : ∀ (x y : Nat), x < E.length → y < E.length → E.getD x 0 = E.getD y 0 → x = y) (hq : Q .normal ⟨Tf, hs.getD E.length []⟩) : AWP P rd m (.region id ops true) Q ⟨T, H⟩ := by
  refine awp_drawL hmix hd.loose h0 hlen hkeep (fun i o ho => chkV_congr (fun t ht => ?_) (hchk i o ho)) hm hnd hq
  rw [vw_look hlen]
  split
  · rfl
  · rename_i hno
    exact (hkeep t (fun j p hp hpd => hno ⟨j, p, hp, hpd, hd.slot i o ho t ht j p hp hpd⟩)).symm

/-- A region that draws and turns nothing. -/
theorem awp_region_quiet {rd : Bool} {m id n : Nat} {Q : AExit → AState → Prop} {T : List AV} {H : List AObj} (hmix : P.follows .mixedOrders = true) (hok : drawOK ops [] = true) (hin : dstsIn ops n = true) (hn : T.length = n) (hm : m ≤ H.length)
    (h : quiK P ops H (fun T => Q .normal ⟨T, H⟩) ops.toList T) : AWP P rd m (.region id ops true) Q ⟨T, H⟩ := by
  obtain ⟨Tf, k1, k2, k3, k4⟩ := quiK_chk (drawOK_spec hok) hin ops.toList 0 T rfl hn h
  refine awp_draw (E := []) (hs := [H]) hmix (drawOK_spec hok) rfl (by omega) (fun t ht => k3 t (fun j o _ ho => ht j o ho)) (fun i o ho => k4 i o (Nat.zero_le _) ho) ?_ (by intro x y hx; simp at hx) k1
  intro k hk
  simp only [List.length_nil, Nat.le_zero] at hk
  subst hk
  exact hm

/-- Operations one behind the other, the heaps behind those of E kept. -/
def runK (P : Program) (ops : Array Oper) (E : List Nat) (K : List AV → List (List AObj) → Prop) : List Oper → Nat → List AV → List AObj → List (List AObj) → Prop
  | [], _, T, _, acc => K T acc
  | o :: os, i, T, H, acc => guardK (wantedA ops T o) (oneK P o T H (fun v H' => runK P ops E K os (i + 1) (put T o.dst v) H' (if E.contains i then acc ++ [H'] else acc)) (fun _ _ => False))
      (runK P ops E K os (i + 1) (put T o.dst (.tuple [])) H acc)

def chkL (P : Program) (ops : Array Oper) (E : List Nat) (hs : List (List AObj)) (Tf : List AV) : List Oper → Nat → Prop
  | [], _ => True
  | o :: os, i => chkOne P ops E hs Tf i o ∧ chkL P ops E hs Tf os (i + 1)

theorem chkL_spec {hs : List (List AObj)} {Tf : List AV} : ∀ (l : List Oper) (i : Nat), ops.toList.drop i = l → chkL P ops E hs Tf l i → ∀ (j : Nat) (o : Oper), i ≤ j → ops[j]? = some o → chkOne P ops E hs Tf j o := by
  intro l
  induction l with
  | nil =>
    intro i hl _ j o hj ho
    have h1 := get_lt ho
    have := congrArg List.length hl
    rw [List.length_drop, List.length_nil, Array.length_toList] at this
    omega
  | cons p os ih =>
    intro i hl h j o hj ho
    have hos : ops.toList.drop (i + 1) = os := by
      have : (ops.toList.drop i).drop 1 = os := by rw [hl]; rfl
      rwa [List.drop_drop] at this
    rcases Nat.lt_or_ge i j with h1 | h1
    · exact ih (i + 1) hos h.2 j o (by omega) ho
    · obtain rfl : i = j := by omega
      have hoi : ops[i]? = some p := by
        have : (ops.toList.drop i)[0]? = some p := by rw [hl]; rfl
        rw [List.getElem?_drop] at this
        simpa using this
      rw [hoi] at ho
      cases ho
      exact h.1

/-- A region that draws: Tf and hs are given; each operation is asked at the slots as they are in the end. -/
theorem awp_region_draw {rd : Bool} {m id : Nat} {Q : AExit → AState → Prop} {T : List AV} {H : List AObj} (E : List Nat) (hs : List (List AObj)) (Tf : List AV) (hmix : P.follows .mixedOrders = true) (hok : drawOK ops E = true) (h0 : hs.getD 0 [] = H)
    (hlen : Tf.length = T.length) (hkeep : ∀ t, t < T.length → (∀ (j : Nat) (o : Oper), ops[j]? = some o → o.dst ≠ some t) → look Tf t = look T t)
    (hchk : chkL P ops E hs Tf ops.toList 0) (hm : ∀ k, k ≤ E.length → m ≤ (hs.getD k []).length)
    (hnd : E.Nodup) (hq : Q .normal ⟨Tf, hs.getD E.length []⟩) : AWP P rd m (.region id ops true) Q ⟨T, H⟩ := by
  refine awp_draw hmix (drawOK_spec hok) h0 hlen ?_ (fun i o ho => chkL_spec ops.toList 0 rfl hchk i o (Nat.zero_le _) ho) hm ?_ hq
  · intro t ht
    rcases Nat.lt_or_ge t T.length with h | h
    · exact hkeep t h ht
    · rw [look_eq, look_eq, List.getD_eq_getElem?_getD, List.getD_eq_getElem?_getD, List.getElem?_eq_none h, List.getElem?_eq_none (by omega)]
  · intro x y hx hy h
    rw [List.getD_eq_getElem?_getD, List.getD_eq_getElem?_getD, List.getElem?_eq_getElem hx, List.getElem?_eq_getElem hy] at h
    have hp := List.pairwise_iff_getElem.1 hnd
    rcases Nat.lt_trichotomy x y with h1 | h1 | h1
    · exact absurd h (hp x y hx hy h1)
    · exact h1
    · exact absurd h.symm (hp y x hy hx h1)

end

end Go.Proofs.Ytamoclnnakdiaaa.Abs
