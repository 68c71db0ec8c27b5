/-
  Values and heaps, held against each other by the kernel; rows of operations and drawn regions, reckoned.
  Conditions: none.
-/
import Derived.Test.YtamoclnnakdiaaaI1T
namespace Go.Proofs.Ytamoclnnakdiaaa.Abs
open Go Go.RowKit
set_option linter.unusedVariables false
set_option linter.unusedSimpArgs false

mutual
def eqAV : AV → AV → Bool
  | .bool a, .bool b => a == b
  | .int k a, .int j b => decide (k = j) && decide (a = b)
  | .str a, .str b => decide (a = b)
  | .nilp, .nilp => true
  | .ptr a b, .ptr c d => Nat.beq a c && Nat.beq b d
  | .eptr a b c d, .eptr e f g h => Nat.beq a e && Nat.beq b f && Nat.beq c g && Nat.beq d h
  | .fptr a, .fptr b => eqAVs a b
  | .nils, .nils => true
  | .nilc, .nilc => true
  | .fz a, .fz b => eqAVs a b
  | .sl a b c d, .sl e f g h => Nat.beq a e && Nat.beq b f && Nat.beq c g && Nat.beq d h
  | .fn f a b, .fn g c d => decide (f = g) && eqAVs a c && eqAVs b d
  | .nilf, .nilf => true
  | .iface t a, .iface u b => Nat.beq t u && eqAV a b
  | .nili, .nili => true
  | .agg a, .agg b => eqAVs a b
  | .tuple a, .tuple b => eqAVs a b
  | .yfn a, .yfn b => Nat.beq a b
  | .junk, .junk => true
  | _, _ => false
def eqAVs : List AV → List AV → Bool
  | [], [] => true
  | x :: xs, y :: ys => eqAV x y && eqAVs xs ys
  | _, _ => false
end

mutual
theorem eqAV_ok : ∀ (x y : AV), eqAV x y = true → x = y
  | .bool a, y, h => by cases y <;> simp [eqAV] at h ⊢ <;> exact h
  | .int k a, y, h => by cases y <;> simp [eqAV] at h ⊢ <;> exact h
  | .str a, y, h => by cases y <;> simp [eqAV] at h ⊢ <;> exact h
  | .nilp, y, h => by cases y <;> simp [eqAV] at h ⊢
  | .ptr a b, y, h => by cases y <;> simp [eqAV] at h ⊢ <;> exact h
  | .eptr a b c d, y, h => by cases y <;> simp [eqAV] at h ⊢ <;> simpa [and_assoc] using h
  | .fptr a, y, h => by cases y <;> simp [eqAV] at h ⊢ <;> exact eqAVs_ok _ _ h
  | .nils, y, h => by cases y <;> simp [eqAV] at h ⊢
  | .nilc, y, h => by cases y <;> simp [eqAV] at h ⊢
  | .fz a, y, h => by cases y <;> simp [eqAV] at h ⊢ <;> exact eqAVs_ok _ _ h
  | .sl a b c d, y, h => by cases y <;> simp [eqAV] at h ⊢ <;> simpa [and_assoc] using h
  | .fn f a b, y, h => by cases y <;> simp [eqAV] at h ⊢ <;> exact ⟨h.1.1, eqAVs_ok _ _ h.1.2, eqAVs_ok _ _ h.2⟩
  | .nilf, y, h => by cases y <;> simp [eqAV] at h ⊢
  | .iface t a, y, h => by cases y <;> simp [eqAV] at h ⊢ <;> exact ⟨h.1, eqAV_ok _ _ h.2⟩
  | .nili, y, h => by cases y <;> simp [eqAV] at h ⊢
  | .agg a, y, h => by cases y <;> simp [eqAV] at h ⊢ <;> exact eqAVs_ok _ _ h
  | .tuple a, y, h => by cases y <;> simp [eqAV] at h ⊢ <;> exact eqAVs_ok _ _ h
  | .yfn a, y, h => by cases y <;> simp [eqAV] at h ⊢ <;> exact h
  | .junk, y, h => by cases y <;> simp [eqAV] at h ⊢
theorem eqAVs_ok : ∀ (x y : List AV), eqAVs x y = true → x = y
  | [], y, h => by cases y <;> simp [eqAVs] at h ⊢
  | x :: xs, y, h => by
    cases y with
    | nil => simp [eqAVs] at h
    | cons y ys =>
      simp only [eqAVs, Bool.and_eq_true] at h
      rw [eqAV_ok x y h.1, eqAVs_ok xs ys h.2]
end

def eqObj : AObj → AObj → Bool
  | .var a, .var b => eqAVs a b
  | .arr g e s a, .arr g' e' s' b => Nat.beq g g' && Nat.beq e e' && Nat.beq s s' && eqAVs a b
  | .dead, .dead => true
  | _, _ => false
theorem eqObj_ok (x y : AObj) (h : eqObj x y = true) : x = y := by
  cases x <;> cases y <;> simp [eqObj] at h ⊢
  · exact eqAVs_ok _ _ h
  · exact ⟨h.1.1.1, h.1.1.2, h.1.2, eqAVs_ok _ _ h.2⟩
/-- Are two heaps the same below k? -/
noncomputable def eqUpto (H H' : Hp) : Nat → Bool
  | 0 => true
  | k + 1 => eqObj (Row.at .dead H k) (Row.at .dead H' k) && eqUpto H H' k
theorem eqUpto_ok {H H' : Hp} : ∀ {k : Nat}, eqUpto H H' k = true → ∀ i, i < k → Row.at .dead H i = Row.at .dead H' i
  | 0, _, i, hi => by omega
  | k + 1, h, i, hi => by
    simp only [eqUpto, Bool.and_eq_true] at h
    rcases Nat.lt_or_ge i k with h1 | h1
    · exact eqUpto_ok h.2 i h1
    · obtain rfl : i = k := by omega
      exact eqObj_ok _ _ h.1
noncomputable def eqHp (H H' : Hp) : Bool := Nat.beq H.n H'.n && eqUpto H H' H.n
theorem eqHp_ok {H H' : Hp} (h : eqHp H H' = true) : H.l = H'.l := by
  simp only [eqHp, Bool.and_eq_true, Nat.beq_eq] at h
  unfold Hp.l Row.toL
  rw [← h.1]
  apply List.map_congr_left
  intro i hi
  exact eqUpto_ok h.2 i (List.mem_range.1 hi)

mutual
/-- Does a value name objects below n alone? -/
def belB (n : Nat) : AV → Bool
  | .ptr id _ => Nat.blt id n
  | .eptr id _ _ _ => Nat.blt id n
  | .fptr cs => belBs n cs
  | .fz xs => belBs n xs
  | .sl id _ _ _ => Nat.blt id n
  | .fn _ a b => belBs n a && belBs n b
  | .iface _ x => belB n x
  | .agg cs => belBs n cs
  | .tuple xs => belBs n xs
  | .yfn id => Nat.blt id n
  | _ => true
def belBs (n : Nat) : List AV → Bool
  | [] => true
  | x :: xs => belB n x && belBs n xs
end
mutual
theorem belB_ok (n : Nat) : ∀ (x : AV), belB n x = true → Below' n x
  | .bool a, h => .bool a
  | .int k a, h => .int k a
  | .str a, h => .str a
  | .nilp, h => .nilp
  | .ptr a b, h => .ptr a b (by simpa [belB] using h)
  | .eptr a b c d, h => .eptr a b c d (by simpa [belB] using h)
  | .fptr a, h => .fptr a (belBs_ok n a (by simpa [belB] using h))
  | .nils, h => .nils
  | .nilc, h => .nilc
  | .fz a, h => .fz a (belBs_ok n a (by simpa [belB] using h))
  | .sl a b c d, h => .sl a b c d (by simpa [belB] using h)
  | .fn f a b, h => by
    simp only [belB, Bool.and_eq_true] at h
    exact .fn f a b (belBs_ok n a h.1) (belBs_ok n b h.2)
  | .nilf, h => .nilf
  | .iface t a, h => .iface t a (belB_ok n a (by simpa [belB] using h))
  | .nili, h => .nili
  | .agg a, h => .agg a (belBs_ok n a (by simpa [belB] using h))
  | .tuple a, h => .tuple a (belBs_ok n a (by simpa [belB] using h))
  | .yfn a, h => .yfn a (by simpa [belB] using h)
  | .junk, h => .junk
theorem belBs_ok (n : Nat) : ∀ (l : List AV), belBs n l = true → ∀ x, x ∈ l → Below' n x
  | [], h, x, hx => by cases hx
  | y :: ys, h, x, hx => by
    simp only [belBs, Bool.and_eq_true] at h
    have hy := belB_ok n y h.1
    have hys := belBs_ok n ys h.2
    rcases List.mem_cons.1 hx with hx | hx
    · rw [hx]; exact hy
    · exact hys x hx
end
def belO (n : Nat) : AObj → Bool
  | .var cs => belBs n cs
  | .arr _ _ _ els => belBs n els
  | .loop _ _ T _ _ _ => belBs n T
  | .dead => true
theorem belO_ok {n : Nat} {o : AObj} (h : belO n o = true) : ObjBelow n o := by
  cases o with
  | var cs => exact belBs_ok n cs h
  | arr g e sz els => exact belBs_ok n els h
  | loop st pend T ps asg body => exact belBs_ok n T h
  | dead => trivial
noncomputable def belH (m : Nat) (H : Hp) : Nat → Bool
  | 0 => true
  | k + 1 => belO m (Row.at .dead H k) && belH m H k
theorem belH_ok {m : Nat} {H : Hp} : ∀ {k : Nat}, belH m H k = true → ∀ i, i < k → ObjBelow m (Row.at .dead H i)
  | 0, _, i, hi => by omega
  | k + 1, h, i, hi => by
    simp only [belH, Bool.and_eq_true] at h
    rcases Nat.lt_or_ge i k with h1 | h1
    · exact belH_ok h.2 i h1
    · obtain rfl : i = k := by omega
      exact belO_ok h.1

/-! ## rows of operations -/
/-- How calls go; the flag asks that what a call made should go at its end. -/
abbrev Clf := Bool → Gn → List AV → Hp → Option (AEnd × Hp)

def ClOK (P : Program) (cl : Clf) : Prop := ∀ (q : Bool) (g : Gn) (args : List AV) (H : Hp) (e : AEnd) (H' : Hp), cl q g args H = some (e, H') → ACallG P g args H.l (fun x H'' => x = e ∧ H'' = H'.l)

/-- How a row of operations ends. -/
inductive XO where
  | fin (T : Sl) (H : Hp)
  | pan (v : AV) (T : Sl) (H : Hp)
  | no

/-- Is a guard met? -/
noncomputable def wantS (T : Sl) (want : Bool) : Option Tmp → Option Bool
  | some d => wantG (Row.at .junk T d) want
  | none => some false
theorem wantS_eq (T : Sl) (want : Bool) (d : Option Tmp) : wantS T want d = wantO T.l want d := by
  cases d with
  | none => rfl
  | some d => simp only [wantS, wantO, look_sl]

/-- What an operation has come to, and what goes on. -/
noncomputable def xGo (cl : Clf) (r : XR) (d : Option Tmp) (next : Sl → Hp → XO) (T : Sl) (H : Hp) : XO :=
  XR.rec (motive := fun _ => XO) (fun v => bif okD d then next (putS T d v) H else .no) (fun v a => bif okD d && haOK H a then next (putS T d v) (haS H a) else .no)
    (fun g args => match cl false g args H with
      | some (.ret v, H') => bif okD d then next (putS T d v) H' else .no
      | some (.panic v, H') => .pan v T H'
      | none => .no) .no r

noncomputable def xWant (l : List Oper) (g : Option (Nat × Bool)) (T : Sl) : Option Bool :=
  Option.rec (motive := fun _ => Option Bool) (some true) (fun jw => wantS T jw.2 (dstOf l jw.1)) g

noncomputable def xStep (P : Program) (cl : Clf) (l : List Oper) (o : Oper) (next : Sl → Hp → XO) (T : Sl) (H : Hp) : XO :=
  Option.rec (motive := fun _ => XO) .no (fun b => Bool.rec (motive := fun _ => XO) (bif okD o.dst then next (putS T o.dst (.tuple [])) H else .no)
    (xGo cl (xOne P o.op (evS T) (hgetS H) H.n) o.dst next T H) b) (xWant l o.guard T)

noncomputable def xOps (P : Program) (cl : Clf) (l : List Oper) (os : List Oper) : Sl → Hp → XO :=
  List.rec (motive := fun _ => Sl → Hp → XO) (fun T H => .fin T H) (fun o _ ih T H => xStep P cl l o ih T H) os

def xoIs (Q : AExit → AState → Prop) : XO → Prop
  | .fin T H => Q .normal ⟨T.l, H.l⟩
  | .pan v T H => Q (.panic v) ⟨T.l, H.l⟩
  | .no => False

theorem xo_bif {Q : AExit → AState → Prop} {b : Bool} {x : XO} (h : xoIs Q (bif b then x else .no)) : b = true ∧ xoIs Q x := by
  cases b with
  | true => exact ⟨rfl, h⟩
  | false => exact h.elim

theorem xOneS_ok (P : Program) (op : Op) (T : Sl) (H : Hp) : good H.l (oneR P op T.l H.l) (xOne P op (evS T) (hgetS H) H.n) := by
  have := xOne_ok P op T.l H.l
  rwa [← evS_eq, ← hgetS_eq, hp_len] at this

theorem xOps_ok {P : Program} {cl : Clf} (hcl : ClOK P cl) {l : List Oper} {Q : AExit → AState → Prop} : ∀ (os : List Oper) (T : Sl) (H : Hp), xoIs Q (xOps P cl l os T H) → walkL P l Q os T.l H.l
  | [], T, H, h => h
  | ⟨d, op, ty, p, af, gd⟩ :: os, T, H, h => by
    have one : xoIs Q (xGo cl (xOne P op (evS T) (hgetS H) H.n) d (xOps P cl l os) T H) → goW P l Q (oneR P op T.l H.l) d os T.l H.l := by
      intro h1
      unfold xGo at h1
      have hg := xOneS_ok P op T H
      cases hx : xOne P op (evS T) (hgetS H) H.n with
      | q v =>
        rw [hx] at hg h1
        obtain ⟨hd, h1⟩ := xo_bif h1
        have ih := xOps_ok hcl os _ _ h1
        rw [putS_eq T d v hd] at ih
        cases hr : oneR P op T.l H.l with
        | ok c v' H' => rw [hr] at hg; obtain ⟨g1, rfl, rfl⟩ := hg; exact ⟨g1, ih⟩
        | any c a b H' => rw [hr] at hg; obtain ⟨g1, rfl, rfl, rfl⟩ := hg; exact ⟨g1, ih, ih⟩
        | call g args => rw [hr] at hg; exact hg.elim
        | no => rw [hr] at hg; exact hg.elim
      | e v a =>
        rw [hx] at hg h1
        obtain ⟨hd, h1⟩ := xo_bif h1
        simp only [Bool.and_eq_true] at hd
        have ih := xOps_ok hcl os _ _ h1
        rw [putS_eq T d v hd.1, haS_eq H a hd.2] at ih
        cases hr : oneR P op T.l H.l with
        | ok c v' H' => rw [hr] at hg; obtain ⟨g1, rfl, rfl⟩ := hg; exact ⟨g1, ih⟩
        | any c a b H' => rw [hr] at hg; exact hg.elim
        | call g args => rw [hr] at hg; exact hg.elim
        | no => rw [hr] at hg; exact hg.elim
      | call g args =>
        rw [hx] at hg h1
        have hr : oneR P op T.l H.l = .call g args := hg
        rw [hr]
        show ACallG P g args H.l _
        simp only at h1
        cases hc : cl false g args H with
        | none => rw [hc] at h1; exact h1.elim
        | some r =>
          obtain ⟨e, H'⟩ := r
          rw [hc] at h1
          refine ACallG.mono (hcl false g args H e H' hc) ?_
          rintro x H'' ⟨rfl, rfl⟩
          cases x with
          | ret v =>
            obtain ⟨hd, h1⟩ := xo_bif h1
            have ih := xOps_ok hcl os _ _ h1
            rw [putS_eq T d v hd] at ih
            exact ih
          | panic v => exact h1
      | no => rw [hx] at h1; exact h1.elim
    cases gd with
    | none => exact one h
    | some jw =>
      obtain ⟨j, want⟩ := jw
      show gdW P l Q (wantO T.l want (dstOf l j)) op d os T.l H.l
      have h' : xoIs Q (Option.rec (motive := fun _ => XO) .no (fun b => Bool.rec (motive := fun _ => XO) (bif okD d then xOps P cl l os (putS T d (.tuple [])) H else .no)
          (xGo cl (xOne P op (evS T) (hgetS H) H.n) d (xOps P cl l os) T H) b) (wantS T want (dstOf l j))) := h
      rw [wantS_eq] at h'
      clear h
      cases hw : wantO T.l want (dstOf l j) with
      | none => rw [hw] at h'; exact h'.elim
      | some b =>
        rw [hw] at h'
        have h := h'
        cases b with
        | true => exact one h
        | false =>
          obtain ⟨hd, h⟩ := xo_bif h
          have ih := xOps_ok hcl os _ _ h
          rw [putS_eq T d _ hd] at ih
          exact ih

/-! ## drawn regions -/
section
variable {P : Program} {ops : Array Oper} {E : List Nat}
/-- What is asked of operation i at the slots T. -/
def chkT (P : Program) (ops : Array Oper) (E : List Nat) (hs : List (List AObj)) (T : List AV) (i : Nat) (o : Oper) (v : AV) : Prop :=
  guardK (wantedA ops T o)
    (match E.findIdx? (· == i) with
     | some k => oneK P o T (hs.getD k []) (fun x H' => x = v ∧ H' = hs.getD (k + 1) []) (fun _ _ => False)
     | none => ∀ k, loE ops E i ≤ k → k ≤ hiE ops E i → oneK P o T (hs.getD k []) (fun x H' => x = v ∧ H' = hs.getD k []) (fun _ _ => False))
    (v = .tuple [] ∧ E.findIdx? (· == i) = none)

def walkD (P : Program) (ops : Array Oper) (E : List Nat) (hs : List (List AObj)) (K : List AV → Prop) : List Oper → Nat → List AV → Prop
  | [], _, T => K T
  | o :: os, i, T => ∃ v, chkT P ops E hs T i o v ∧ walkD P ops E hs K os (i + 1) (put T o.dst v)

theorem walkD_chk {hs : List (List AObj)} {K : List AV → Prop} (hd : DrawL ops E) {n : Nat} (hin : dstsIn ops n = true) {T0 : List AV} (hn0 : T0.length = n) : ∀ (l : List Oper) (i : Nat) (T : List AV), ops.toList.drop i = l → T.length = n →
    (∀ t, (∀ (j : Nat) (o : Oper), j < i → ops[j]? = some o → o.dst ≠ some t) → look T t = look T0 t) → walkD P ops E hs K l i T →
    ∃ Tf, K Tf ∧ Tf.length = n ∧ (∀ t, (∀ (j : Nat) (o : Oper), i ≤ j → ops[j]? = some o → o.dst ≠ some t) → look Tf t = look T t) ∧
      (∀ (j : Nat) (o : Oper), i ≤ j → ops[j]? = some o → chkV P ops E hs Tf (vw ops T0 Tf o) j o) := by
  intro l
  induction l with
  | nil =>
    intro i T hl hn h0 h
    refine ⟨T, h, hn, fun _ _ => rfl, ?_⟩
    intro j o hj ho
    have h1 := get_lt ho
    have h2 : ops.toList.length ≤ i := by
      have := congrArg List.length hl
      rw [List.length_drop, List.length_nil] at this
      omega
    rw [Array.length_toList] at h2
    omega
  | cons o os ih =>
    intro i T hl hn h0 h
    have hoi : ops[i]? = some o := by
      have : (ops.toList.drop i)[0]? = some o := by rw [hl]; rfl
      rw [List.getElem?_drop] at this
      simpa using this
    have hos : ops.toList.drop (i + 1) = os := by
      have : (ops.toList.drop i).drop 1 = os := by rw [hl]; rfl
      rwa [List.drop_drop] at this
    have hdlt : ∀ d, o.dst = some d → d < n := by
      intro d hdd
      unfold dstsIn at hin
      rw [List.all_eq_true] at hin
      have := hin o (by rw [Array.mem_toList_iff]; exact Array.mem_of_getElem? hoi)
      rw [hdd] at this
      simpa using this
    obtain ⟨v, hv, hq⟩ := h
    have h0' : ∀ t, (∀ (j : Nat) (p : Oper), j < i + 1 → ops[j]? = some p → p.dst ≠ some t) → look (put T o.dst v) t = look T0 t := by
      intro t ht
      rw [look_put_ne (ht i o (by omega) hoi), h0 t (fun j p hj hp => ht j p (by omega) hp)]
    obtain ⟨Tf, k1, k2, k3, k4⟩ := ih (i + 1) _ hos (by rw [put_length]; exact hn) h0' hq
    have hkeep : ∀ t, (∀ (j : Nat) (p : Oper), i ≤ j → ops[j]? = some p → p.dst ≠ some t) → look Tf t = look T t := by
      intro t ht
      rw [k3 t (fun j p hj hp => ht j p (by omega) hp), look_put_ne (ht i o (Nat.le_refl _) hoi)]
    refine ⟨Tf, k1, k2, hkeep, ?_⟩
    intro j p hj hp
    rcases Nat.lt_or_ge i j with h1 | h1
    · exact k4 j p (by omega) hp
    · obtain rfl : i = j := by omega
      rw [hoi] at hp
      cases hp
      have hs1 : ∀ t, t ∈ slotsOf ops o → look (vw ops T0 Tf o) t = look T t := by
        intro t ht
        rw [vw_look (by rw [k2, hn0])]
        by_cases hw : ∃ (j : Nat) (p : Oper), ops[j]? = some p ∧ p.dst = some t
        · obtain ⟨j, p, hp, hpd⟩ := hw
          have only : ∀ (j' : Nat) (p' : Oper), ops[j']? = some p' → p'.dst = some t → j' = j := fun j' p' hp' hpd' => hd.uniq j' j p' p t hp' hp hpd' hpd
          rcases hd.slot i o hoi t ht j p hp hpd with he' | ha
          · rw [if_pos ⟨j, p, hp, hpd, he'⟩]
            have hji := hd.lt i o hoi j he'
            exact hkeep t (fun j' p' hj' hp' hpd' => by
              obtain rfl := only j' p' hp' hpd'
              omega)
          · have hij := anc_lt hd j p hp i ha
            rw [if_neg]
            · exact (h0 t (fun j' p' hj' hp' hpd' => by
                obtain rfl := only j' p' hp' hpd'
                omega)).symm
            · rintro ⟨j', p', hp', hpd', he'⟩
              obtain rfl := only j' p' hp' hpd'
              have := hd.lt i o hoi j' he'
              omega
        · rw [if_neg (fun ⟨j, p, hp, hpd, _⟩ => hw ⟨j, p, hp, hpd⟩)]
          exact (h0 t (fun j p _ hp hpd => hw ⟨j, p, hp, hpd⟩)).symm
      have hdst : dstIs o Tf v := by
        unfold dstIs
        cases hdst : o.dst with
        | none => trivial
        | some d =>
          simp only []
          rw [k3 d (fun j p hj hp hpd => by
            have := hd.uniq i j o p d hoi hp hdst hpd
            omega), hdst, look_put_eq (by rw [hn]; exact hdlt d hdst)]
      refine chkV_congr hs1 ?_
      unfold chkT at hv
      unfold chkV
      cases hw : wantedA ops T o with
      | none => rw [hw] at hv; exact hv.elim
      | some b =>
        rw [hw] at hv
        cases b with
        | true =>
          simp only [guardK] at hv ⊢
          exact ⟨v, hdst, hv⟩
        | false =>
          simp only [guardK] at hv ⊢
          obtain ⟨rfl, hv⟩ := hv
          exact ⟨hdst, hv⟩
end

/-- One operation of a drawn region: its value, the heap behind it, and whether it is the same for sure. -/
noncomputable def xEv (q : Bool) (P : Program) (cl : Clf) (op : Op) (T : Sl) (H : Hp) : Option (AV × Hp × Bool) :=
  match xOne P op (evS T) (hgetS H) H.n with
  | .q v => some (v, H, true)
  | .e v a => bif haOK H a then some (v, haS H a, false) else none
  | .call g args =>
    match cl q g args H with
    | some (.ret v, H') => some (v, H', q && eqHp H' H)
    | _ => none
  | .no => none

theorem bif_some {α : Type} {b : Bool} {x : Option α} {r : α} (h : (bif b then x else none) = some r) : b = true ∧ x = some r := by
  cases b with
  | true => exact ⟨rfl, h⟩
  | false => cases h

theorem xEv_ok {q : Bool} {P : Program} {cl : Clf} (hcl : ClOK P cl) {o : Oper} {T : Sl} {H H' : Hp} {v : AV} {b : Bool} (h : xEv q P cl o.op T H = some (v, H', b)) :
    oneK P o T.l H.l (fun x H'' => x = v ∧ H'' = H'.l) (fun _ _ => False) ∧ (b = true → H'.l = H.l) := by
  have hg := xOneS_ok P o.op T H
  unfold xEv at h
  cases hx : xOne P o.op (evS T) (hgetS H) H.n with
  | q u =>
    rw [hx] at hg h
    cases h
    refine ⟨oneR_sound ?_, fun _ => rfl⟩
    cases hr : oneR P o.op T.l H.l with
    | ok c v' H1 => rw [hr] at hg; obtain ⟨g1, rfl, rfl⟩ := hg; exact ⟨g1, rfl, rfl⟩
    | any c a b H1 => rw [hr] at hg; obtain ⟨g1, rfl, rfl, rfl⟩ := hg; exact ⟨g1, ⟨rfl, rfl⟩, rfl, rfl⟩
    | call g args => rw [hr] at hg; exact hg.elim
    | no => rw [hr] at hg; exact hg.elim
  | e u a =>
    rw [hx] at hg h
    obtain ⟨hb, h⟩ := bif_some h
    cases h
    refine ⟨oneR_sound ?_, fun hx => by cases hx⟩
    cases hr : oneR P o.op T.l H.l with
    | ok c v' H2 => rw [hr] at hg; obtain ⟨g1, rfl, rfl⟩ := hg; exact ⟨g1, rfl, (haS_eq H a hb).symm⟩
    | any c a b H2 => rw [hr] at hg; exact hg.elim
    | call g args => rw [hr] at hg; exact hg.elim
    | no => rw [hr] at hg; exact hg.elim
  | call g args =>
    rw [hx] at hg h
    have hr : oneR P o.op T.l H.l = .call g args := hg
    simp only at h
    cases hc : cl q g args H with
    | none => rw [hc] at h; cases h
    | some r =>
      obtain ⟨e, H2⟩ := r
      rw [hc] at h
      cases e with
      | ret u =>
        cases h
        refine ⟨oneR_sound ?_, fun hb => eqHp_ok (by simp only [Bool.and_eq_true] at hb; exact hb.2)⟩
        rw [hr]
        exact ACallG.mono (hcl q g args H _ _ hc) (fun x H'' ⟨h1, h2⟩ => by subst h1 h2; exact ⟨rfl, rfl⟩)
      | panic u => cases h
  | no => rw [hx] at h; cases h

/-- The heaps of a list. -/
noncomputable abbrev hls (hs : List Hp) : List (List AObj) := hs.map Hp.l
noncomputable def hpAt (hs : List Hp) (k : Nat) : Hp := hs.getD k ⟨0, .leaf⟩
theorem hls_at (hs : List Hp) (k : Nat) : (hls hs).getD k [] = (hpAt hs k).l := by
  unfold hpAt
  simp only [List.getD_eq_getElem?_getD, List.getElem?_map]
  cases hs[k]? <;> rfl

/-- Is a quiet operation the same at the heaps of ks, but for c? -/
noncomputable def xKs (q : Bool) (P : Program) (cl : Clf) (op : Op) (T : Sl) (hs : List Hp) (v : AV) (c : Nat) : List Nat → Bool
  | [] => true
  | k :: ks => (Nat.beq k c || (match xEv q P cl op T (hpAt hs k) with | some (u, _, b) => eqAV u v && b | none => false)) && xKs q P cl op T hs v c ks
theorem xKs_ok {q : Bool} {P : Program} {cl : Clf} (hcl : ClOK P cl) {o : Oper} {T : Sl} {hs : List Hp} {v : AV} {c : Nat} (hc : oneK P o T.l (hpAt hs c).l (fun x H' => x = v ∧ H' = (hpAt hs c).l) (fun _ _ => False)) : ∀ {ks : List Nat}, xKs q P cl o.op T hs v c ks = true → ∀ k, k ∈ ks →
    oneK P o T.l (hpAt hs k).l (fun x H' => x = v ∧ H' = (hpAt hs k).l) (fun _ _ => False)
  | [], _, k, h => by cases h
  | j :: ks, h, k, hk => by
    simp only [xKs, Bool.and_eq_true, Bool.or_eq_true] at h
    rcases List.mem_cons.1 hk with rfl | hk
    · rcases h.1 with h1 | h1
      · rw [Nat.eq_of_beq_eq_true h1]; exact hc
      · cases he : xEv q P cl o.op T (hpAt hs k) with
        | none => rw [he] at h1; cases h1
        | some r =>
          obtain ⟨u, H', b⟩ := r
          rw [he] at h1
          simp only [Bool.and_eq_true] at h1
          obtain rfl := eqAV_ok _ _ h1.1
          obtain ⟨h2, h3⟩ := xEv_ok hcl he
          rwa [h3 h1.2] at h2
    · exact xKs_ok hcl hc h.2 k hk

/-- The numbers from a to b. -/
def upto (a b : Nat) : List Nat := (List.range (b + 1 - a)).map (· + a)
theorem mem_upto {a b k : Nat} (h1 : a ≤ k) (h2 : k ≤ b) : k ∈ upto a b := by
  unfold upto
  rw [List.mem_map]
  exact ⟨k - a, by rw [List.mem_range]; omega, by omega⟩

noncomputable def wantedS (l : List Oper) (T : Sl) (o : Oper) : Option Bool :=
  match o.guard with
  | none => some true
  | some (j, want) => wantS T want (dstOf l j)
theorem wantedS_eq (l : List Oper) (T : Sl) (o : Oper) : wantedS l T o = wantedA l.toArray T.l o := by
  obtain ⟨d, op, ty, p, af, g⟩ := o
  cases g with
  | none => rfl
  | some jw =>
    obtain ⟨j, want⟩ := jw
    rw [wantedA_some]
    exact wantS_eq T want _

/-- The walk of a drawn region in the text's order; hs are the heaps behind the operations of E, told ahead; chk: the quiet ones are asked. What comes out: the slots, and the heaps behind H. -/
noncomputable def xPh (q : Bool) (P : Program) (cl : Clf) (l : List Oper) (E : List Nat) (m : Nat) (hs : List Hp) (chk : Bool) : List Oper → Nat → Nat → Sl → Hp → Option (Sl × List Hp)
  | [], _, _, T, _ => some (T, [])
  | o :: os, i, c, T, H =>
    bif okD o.dst then
    match wantedS l T o with
    | some true =>
      match xEv q P cl o.op T H with
      | some (v, H', b) =>
        match E.findIdx? (· == i) with
        | some k => bif Nat.beq k c && Nat.ble m H'.n then (xPh q P cl l E m hs chk os (i + 1) (c + 1) (putS T o.dst v) H').map fun r => (r.1, H' :: r.2) else none
        | none => bif b && (!chk || xKs q P cl o.op T hs v c (upto (loE l.toArray E i) (hiE l.toArray E i))) then xPh q P cl l E m hs chk os (i + 1) c (putS T o.dst v) H else none
      | none => none
    | some false =>
      match E.findIdx? (· == i) with
      | some _ => none
      | none => xPh q P cl l E m hs chk os (i + 1) c (putS T o.dst (.tuple [])) H
    | none => none
    else none

/-- What comes out does not hang on what is told ahead. -/
theorem xPh_same {q : Bool} {P : Program} {cl : Clf} {l : List Oper} {E : List Nat} {m : Nat} {hs hs' : List Hp} : ∀ (os : List Oper) (i c : Nat) (T : Sl) (H : Hp) (r : Sl × List Hp),
    xPh q P cl l E m hs true os i c T H = some r → xPh q P cl l E m hs' false os i c T H = some r
  | [], i, c, T, H, r, h => h
  | o :: os, i, c, T, H, r, h => by
    simp only [xPh] at h ⊢
    obtain ⟨hd, h⟩ := bif_some h
    simp only [hd, cond_true]
    cases hw : wantedS l T o with
    | none => rw [hw] at h; cases h
    | some b =>
      rw [hw] at h
      cases b with
      | true =>
        simp only at h ⊢
        cases he : xEv q P cl o.op T H with
        | none => rw [he] at h; cases h
        | some vh =>
          obtain ⟨v, H', b⟩ := vh
          rw [he] at h
          simp only at h ⊢
          cases hf : E.findIdx? (· == i) with
          | some k =>
            rw [hf] at h
            obtain ⟨hb, h⟩ := bif_some h
            simp only [hb, cond_true]
            simp only [Option.map_eq_some_iff] at h ⊢
            obtain ⟨a, h1, h2⟩ := h
            exact ⟨a, xPh_same os _ _ _ _ a h1, h2⟩
          | none =>
            rw [hf] at h
            obtain ⟨hb, h⟩ := bif_some h
            simp only [Bool.and_eq_true] at hb
            simp only [hb.1, Bool.not_false, Bool.true_or, Bool.and_true, cond_true]
            exact xPh_same os _ _ _ _ r h
      | false =>
        simp only at h ⊢
        cases hf : E.findIdx? (· == i) with
        | some k => rw [hf] at h; cases h
        | none => rw [hf] at h; exact xPh_same os _ _ _ _ r h

theorem hpAt_app (a : List Hp) (b : List Hp) (n : Nat) : hpAt (a ++ b) (a.length + n) = hpAt b n := by
  simp [hpAt, List.getD_eq_getElem?_getD, List.getElem?_append_right]

theorem xPh_ok {q : Bool} {P : Program} {cl : Clf} (hcl : ClOK P cl) {l : List Oper} {E : List Nat} {m : Nat} {hs : List Hp} {K : List AV → Prop} : ∀ (os : List Oper) (i c : Nat) (T : Sl) (H : Hp) (Tf : Sl) (tl pre : List Hp),
    hs = pre ++ H :: tl → pre.length = c → K Tf.l → xPh q P cl l E m hs true os i c T H = some (Tf, tl) → walkD P l.toArray E (hls hs) K os i T.l ∧ (∀ X, X ∈ tl → m ≤ X.n)
  | [], i, c, T, H, Tf, tl, pre, hhs, hc, hK, h => by
    simp only [xPh, Option.some.injEq, Prod.mk.injEq] at h
    obtain ⟨rfl, rfl⟩ := h
    exact ⟨hK, fun X hX => by cases hX⟩
  | o :: os, i, c, T, H, Tf, tl, pre, hhs, hc, hK, h => by
    simp only [xPh] at h
    obtain ⟨hd, h⟩ := bif_some h
    have hc0 : hpAt hs c = H := by rw [hhs, ← hc]; exact hpAt_app pre (H :: tl) 0
    cases hw : wantedS l T o with
    | none => rw [hw] at h; cases h
    | some b =>
      rw [hw] at h
      rw [wantedS_eq] at hw
      cases b with
      | true =>
        simp only at h
        cases he : xEv q P cl o.op T H with
        | none => rw [he] at h; cases h
        | some vh =>
          obtain ⟨v, H', b⟩ := vh
          rw [he] at h
          simp only at h
          obtain ⟨hone, hsame⟩ := xEv_ok hcl he
          cases hf : E.findIdx? (· == i) with
          | some k =>
            rw [hf] at h
            obtain ⟨hb, h⟩ := bif_some h
            simp only [Bool.and_eq_true, Nat.beq_eq, Nat.ble_eq] at hb
            obtain ⟨rfl, hb⟩ := hb
            simp only [Option.map_eq_some_iff, Prod.mk.injEq] at h
            obtain ⟨⟨Tf', tl'⟩, h1, rfl, rfl⟩ := h
            have hc1 : hpAt hs (k + 1) = H' := by rw [hhs, ← hc]; exact hpAt_app pre _ 1
            obtain ⟨g1, g2⟩ := xPh_ok hcl os (i + 1) (k + 1) _ H' Tf' tl' (pre ++ [H]) (by rw [hhs]; simp) (by simp [hc]) hK h1
            rw [putS_eq T o.dst v hd] at g1
            refine ⟨⟨v, ?_, g1⟩, fun X hX => ?_⟩
            · unfold chkT
              rw [hw]
              simp only [guardK, hf]
              rw [hls_at, hls_at, hc0, hc1]
              exact hone
            · rcases List.mem_cons.1 hX with rfl | hX
              · exact hb
              · exact g2 X hX
          | none =>
            rw [hf] at h
            obtain ⟨hb, h⟩ := bif_some h
            simp only [Bool.and_eq_true, Bool.not_true, Bool.false_or] at hb
            have hsame' := hsame hb.1
            rw [hsame'] at hone
            obtain ⟨g1, g2⟩ := xPh_ok hcl os (i + 1) c _ H Tf tl pre hhs hc hK h
            rw [putS_eq T o.dst v hd] at g1
            refine ⟨⟨v, ?_, g1⟩, g2⟩
            unfold chkT
            rw [hw]
            simp only [guardK, hf]
            intro k h1 h2
            rw [hls_at]
            exact xKs_ok hcl (by rw [hc0]; exact hone) hb.2 k (mem_upto h1 h2)
      | false =>
        simp only at h
        cases hf : E.findIdx? (· == i) with
        | some k => rw [hf] at h; cases h
        | none =>
          rw [hf] at h
          obtain ⟨g1, g2⟩ := xPh_ok hcl os (i + 1) c _ H Tf tl pre hhs hc hK h
          rw [putS_eq T o.dst _ hd] at g1
          refine ⟨⟨_, ?_, g1⟩, g2⟩
          unfold chkT
          rw [hw]
          exact ⟨rfl, hf⟩

/-- The operations that turn the heap, as they come. -/
noncomputable def xEff (q : Bool) (P : Program) (cl : Clf) (l : List Oper) : List Oper → Nat → Sl → Hp → List Nat
  | [], _, _, _ => []
  | o :: os, i, T, H =>
    match wantedS l T o with
    | some true =>
      match xEv q P cl o.op T H with
      | some (v, H', b) => bif b then xEff q P cl l os (i + 1) (putS T o.dst v) H else i :: xEff q P cl l os (i + 1) (putS T o.dst v) H'
      | none => []
    | some false => xEff q P cl l os (i + 1) (putS T o.dst (.tuple [])) H
    | none => []

def nodupN : List Nat → Bool
  | [] => true
  | x :: xs => !(xs.contains x) && nodupN xs
theorem nodupN_ok : ∀ {l : List Nat}, nodupN l = true → l.Nodup
  | [], _ => List.nodup_nil
  | x :: xs, h => by
    simp only [nodupN, Bool.and_eq_true, Bool.not_eq_true', List.contains_eq_mem] at h
    exact List.nodup_cons.2 ⟨by simpa using h.1, nodupN_ok h.2⟩

/-- A drawn region, walked. -/
theorem awp_xdraw {rd q : Bool} {P : Program} {cl : Clf} (hcl : ClOK P cl) (hmix : P.follows .mixedOrders = true) {m id : Nat} {Q : AExit → AState → Prop} {l : List Oper} {T Tf : Sl} {H : Hp} {E : List Nat} {tl : List Hp}
    (hb : (drawOKL l.toArray E && dstsIn l.toArray T.n && nodupN E && Nat.beq tl.length E.length) = true) (hm : m ≤ H.n) (h : xPh q P cl l E m (H :: tl) true l 0 0 T H = some (Tf, tl))
    (hq : Q .normal ⟨Tf.l, (hpAt (H :: tl) E.length).l⟩) : AWP P rd m (.region id l.toArray true) Q ⟨T.l, H.l⟩ := by
  simp only [Bool.and_eq_true, Nat.beq_eq] at hb
  obtain ⟨⟨⟨h1, h2⟩, h3⟩, h4⟩ := hb
  have hd := drawOKL_spec h1
  have hTn : T.l.length = T.n := Row.toL_length _ _
  obtain ⟨g1, g2⟩ := xPh_ok (K := fun T' => T' = Tf.l) hcl l 0 0 T H Tf tl [] rfl rfl rfl h
  obtain ⟨Tf', rfl, k2, k3, k4⟩ := walkD_chk hd h2 hTn l 0 T.l (by simp) hTn (fun t _ => rfl) g1
  refine awp_drawL (hs := hls (H :: tl)) hmix hd rfl (k2.trans hTn.symm) (fun t ht => k3 t (fun j o _ ho => ht j o ho)) (fun i o ho => k4 i o (Nat.zero_le _) ho) ?_ ?_ (by rw [hls_at]; exact hq)
  · intro k hk
    rw [hls_at, hp_len]
    cases k with
    | zero => exact hm
    | succ k =>
      have hk' : k < tl.length := by omega
      simp only [hpAt, List.getD_eq_getElem?_getD, List.getElem?_cons_succ, List.getElem?_eq_getElem hk', Option.getD_some]
      exact g2 _ (List.getElem_mem hk')
  · have hp := List.pairwise_iff_getElem.1 (nodupN_ok h3)
    intro x y hx hy hxy
    simp only [List.getD_eq_getElem?_getD, List.getElem?_eq_getElem hx, List.getElem?_eq_getElem hy, Option.getD_some] at hxy
    rcases Nat.lt_trichotomy x y with h1 | h1 | h1
    · exact absurd hxy (hp x y hx hy h1)
    · exact h1
    · exact absurd hxy.symm (hp y x hy hx h1)

noncomputable def xDrawE (q : Bool) (P : Program) (cl : Clf) (l : List Oper) (E : List Nat) (m : Nat) (T : Sl) (H : Hp) : Option (Sl × Hp) :=
  match xPh q P cl l E m [] false l 0 0 T H with
  | some (_, tl) =>
    bif drawOKL l.toArray E && dstsIn l.toArray T.n && nodupN E && Nat.beq tl.length E.length then
      match xPh q P cl l E m (H :: tl) true l 0 0 T H with
      | some (Tf, _) => some (Tf, hpAt (H :: tl) E.length)
      | none => none
    else none
  | none => none

/-- A drawn region that leaves the heap as it is: one pass. -/
noncomputable def xQui (q : Bool) (P : Program) (cl : Clf) (l : List Oper) (H : Hp) (os : List Oper) : Sl → Option Sl :=
  List.rec (motive := fun _ => Sl → Option Sl) (fun T => some T) (fun o _ ih T =>
    bif okD o.dst then
      match xWant l o.guard T with
      | some true =>
        match xEv q P cl o.op T H with
        | some (v, _, true) => ih (putS T o.dst v)
        | _ => none
      | some false => ih (putS T o.dst (.tuple []))
      | none => none
    else none) os

theorem xWant_eq (l : List Oper) (o : Oper) (T : Sl) : xWant l o.guard T = wantedS l T o := by
  unfold xWant wantedS
  cases o.guard <;> rfl

theorem xQui_ok {q : Bool} {P : Program} {cl : Clf} {l : List Oper} {m : Nat} {H : Hp} : ∀ (os : List Oper) (i : Nat) (T Tf : Sl), xQui q P cl l H os T = some Tf →
    (∀ i, i < l.length → hiE l.toArray [] i = 0) → xPh q P cl l [] m [H] true os i 0 T H = some (Tf, [])
  | [], i, T, Tf, h, hi => by
    have : some T = some Tf := h
    cases this
    rfl
  | o :: os, i, T, Tf, h, hi => by
    have h' : (bif okD o.dst then
      match xWant l o.guard T with
      | some true =>
        match xEv q P cl o.op T H with
        | some (v, _, true) => xQui q P cl l H os (putS T o.dst v)
        | _ => none
      | some false => xQui q P cl l H os (putS T o.dst (.tuple []))
      | none => none
    else none) = some Tf := h
    obtain ⟨hd, h'⟩ := bif_some h'
    rw [xWant_eq] at h'
    simp only [xPh, hd, cond_true]
    cases hw : wantedS l T o with
    | none => rw [hw] at h'; cases h'
    | some b =>
      rw [hw] at h'
      cases b with
      | false =>
        simp only at h' ⊢
        rw [List.findIdx?_nil]
        exact xQui_ok os (i + 1) _ Tf h' hi
      | true =>
        simp only at h' ⊢
        cases he : xEv q P cl o.op T H with
        | none => rw [he] at h'; cases h'
        | some r =>
          obtain ⟨v, H', b⟩ := r
          rw [he] at h'
          cases b with
          | false => cases h'
          | true =>
            simp only at h' ⊢
            rw [List.findIdx?_nil]
            have hk : xKs q P cl o.op T [H] v 0 (upto (loE l.toArray [] i) (hiE l.toArray [] i)) = true := by
              have h1 : hiE l.toArray [] i = 0 := rfl
              have h2 : loE l.toArray [] i = 0 := rfl
              rw [h1, h2]
              rfl
            rw [hk]
            simp only [Bool.not_true, Bool.false_or, Bool.and_self, cond_true]
            exact xQui_ok os (i + 1) _ Tf h' hi

noncomputable def xDraw (P : Program) (cl : Clf) (l : List Oper) (m : Nat) (T : Sl) (H : Hp) : Option (Sl × Hp) :=
  match xQui false P cl l H l T with
  | some Tf => bif drawOKL l.toArray [] && dstsIn l.toArray T.n then some (Tf, H) else none
  | none =>
    match xDrawE false P cl l (xEff false P cl l l 0 T H) m T H with
    | some r => some r
    | none => xDrawE true P cl l (xEff true P cl l l 0 T H) m T H

theorem xDrawE_ok {rd q : Bool} {P : Program} {cl : Clf} (hcl : ClOK P cl) (hmix : P.follows .mixedOrders = true) {m id : Nat} {Q : AExit → AState → Prop} {l : List Oper} {E : List Nat} {T Tf : Sl} {H H' : Hp} (hm : m ≤ H.n)
    (h : xDrawE q P cl l E m T H = some (Tf, H')) (hq : Q .normal ⟨Tf.l, H'.l⟩) : AWP P rd m (.region id l.toArray true) Q ⟨T.l, H.l⟩ := by
  unfold xDrawE at h
  cases h1 : xPh q P cl l E m [] false l 0 0 T H with
  | none => rw [h1] at h; cases h
  | some r =>
    obtain ⟨Tf0, tl⟩ := r
    rw [h1] at h
    obtain ⟨hb, h⟩ := bif_some h
    cases h2 : xPh q P cl l E m (H :: tl) true l 0 0 T H with
    | none => rw [h2] at h; cases h
    | some r2 =>
      obtain ⟨Tf1, tl1⟩ := r2
      have h3 := xPh_same (hs' := []) _ _ _ _ _ _ h2
      rw [h1] at h3
      cases h3
      rw [h2] at h
      cases h
      exact awp_xdraw hcl hmix hb hm h2 hq

theorem xDraw_ok {rd : Bool} {P : Program} {cl : Clf} (hcl : ClOK P cl) (hmix : P.follows .mixedOrders = true) {m id : Nat} {Q : AExit → AState → Prop} {l : List Oper} {T Tf : Sl} {H H' : Hp} (hm : m ≤ H.n)
    (h : xDraw P cl l m T H = some (Tf, H')) (hq : Q .normal ⟨Tf.l, H'.l⟩) : AWP P rd m (.region id l.toArray true) Q ⟨T.l, H.l⟩ := by
  unfold xDraw at h
  cases hE : xQui false P cl l H l T with
  | none =>
    rw [hE] at h
    simp only at h
    cases hF : xDrawE false P cl l (xEff false P cl l l 0 T H) m T H with
    | none => rw [hF] at h; exact xDrawE_ok hcl hmix hm h hq
    | some r => rw [hF] at h; cases h; exact xDrawE_ok hcl hmix hm hF hq
  | some T1 =>
    rw [hE] at h
    obtain ⟨hb, h⟩ := bif_some h
    cases h
    exact awp_xdraw (E := []) (tl := []) hcl hmix (by simp only [Bool.and_eq_true] at hb ⊢; exact ⟨⟨hb, rfl⟩, rfl⟩) hm (xQui_ok l 0 T Tf hE (fun _ _ => rfl)) hq

end Go.Proofs.Ytamoclnnakdiaaa.Abs
