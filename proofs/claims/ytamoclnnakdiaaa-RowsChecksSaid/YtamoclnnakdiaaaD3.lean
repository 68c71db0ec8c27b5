/-
  A table is right by itself just if its columns may be and its rules fit and rise.
  Conditions: none.
-/
import Derived.Test.YtamoclnnakdiaaaD2
namespace Go.Proofs.Ytamoclnnakdiaaa.Abs
open Go Go.RowKit
set_option linter.unusedVariables false
set_option maxRecDepth 100000
set_option maxHeartbeats 4000000
set_option linter.unusedSimpArgs false

/-! ## names that rise -/
theorem cmp_iff : ∀ a b : List UInt8, 0 ≤ Go.Lib.compareBytes a b ↔ Op.bytesLess a b = false
  | [], [] => by simp [Go.Lib.compareBytes, Op.bytesLess]
  | [], _ :: _ => by simp [Go.Lib.compareBytes, Op.bytesLess]
  | _ :: _, [] => by simp [Go.Lib.compareBytes, Op.bytesLess]
  | a :: x, b :: y => by
    have ih := cmp_iff x y
    simp only [Go.Lib.compareBytes, Op.bytesLess]
    by_cases h1 : a < b
    · simp [h1]
    · rw [if_neg h1]
      by_cases h2 : b < a
      · rw [if_pos h2]
        have : ¬ a = b := fun h => by subst h; exact h1 h2
        simp [h1, this]
      · rw [if_neg h2]
        have : a = b := by
          have h3 : ¬ a.toNat < b.toNat := h1
          have h4 : ¬ b.toNat < a.toNat := h2
          exact UInt8.toNat_inj.1 (by omega)
        subst this
        rw [ih]
        simp [h1]
theorem cmp_less (a b : List UInt8) : decide (0 ≤ Go.Lib.compareBytes a b) = !(Op.bytesLess a b) := by
  have := cmp_iff a b
  cases h : Op.bytesLess a b with
  | true => rw [h] at this; simp only [Bool.true_eq_false, iff_false] at this; simp [this]
  | false => rw [h] at this; simp only [iff_true] at this; simp [this]

/-- Do names rise, from the one ahead on? -/
def riseF : Option (List UInt8) → List RuleR → Bool
  | _, [] => true
  | none, r :: l => riseF (some r.name) l
  | some p, r :: l => Op.bytesLess p r.name && riseF (some r.name) l

def rulesR (l : List ColR) : Option (List UInt8) → List RuleR → Bool
  | _, [] => true
  | none, r :: rs => fitsB l r && rulesR l (some r.name) rs
  | some p, r :: rs => (Op.bytesLess p r.name && fitsB l r) && rulesR l (some r.name) rs

theorem rulesR_eq (l : List ColR) : ∀ (p : Option (List UInt8)) (rs : List RuleR), rulesR l p rs = (rs.all (fitsB l) && riseF p rs)
  | _, [] => by cases ‹Option _› <;> rfl
  | none, r :: rs => by
    simp only [rulesR, riseF, List.all_cons, rulesR_eq l (some r.name) rs]
    ac_rfl
  | some p, r :: rs => by
    simp only [rulesR, riseF, List.all_cons, rulesR_eq l (some r.name) rs]
    ac_rfl

theorem rises_cons (p r : RuleR) (l : List RuleR) : risesB (fun a b => Go.Lib.compareBytes a.name b.name) (p :: r :: l) = (Op.bytesLess p.name r.name && risesB (fun a b => Go.Lib.compareBytes a.name b.name) (r :: l)) := by
  unfold risesB
  have h1 : (p :: r :: l).length - 1 = l.length + 1 := by simp
  have h2 : (r :: l).length - 1 = l.length := by simp
  rw [h1, h2, List.range_succ_eq_map, List.all_cons, List.all_map]
  congr 1
  · unfold okRise
    simp only [List.getElem?_cons_zero, List.getElem?_cons_succ]
    rw [cmp_less, Bool.not_not]

theorem rises_eq : ∀ (p : RuleR) (l : List RuleR), risesB (fun a b => Go.Lib.compareBytes a.name b.name) (p :: l) = riseF (some p.name) l
  | p, [] => rfl
  | p, r :: l => by rw [rises_cons, rises_eq r l]; rfl

theorem rises_riseF : ∀ l : List RuleR, risesB (fun a b => Go.Lib.compareBytes a.name b.name) l = riseF none l
  | [] => rfl
  | r :: l => by rw [rises_eq]; rfl

/-- Is a table right by itself? The same, without other objects. -/
def rightT (t : TableR) : Bool := colsB t.cols && !decide (8 < (t.rules.length : Int)) && rulesR t.cols none t.rules

theorem aloneRule_fits (l : List ColR) (r : RuleR) : fitsB l (aloneRule r) = fitsB l r ∧ (fitsB l r = true → (aloneRule r).kind ≠ 4) := by
  unfold aloneRule
  by_cases h : (r.kind == 4 && (nameB r.schema && (nameB r.table && nameB r.key))) = true
  · rw [if_pos h]
    simp only [Bool.and_eq_true, beq_iff_eq] at h
    obtain ⟨h1, h2, h3, h4⟩ := h
    refine ⟨?_, fun _ => by simp⟩
    simp only [fitsB, fitTail, h1, h2, h3, h4, bare3]
    simp
  · rw [if_neg h]
    refine ⟨rfl, fun hf hk => h ?_⟩
    unfold fitsB at hf
    simp only [Bool.and_eq_true] at hf
    have ht := hf.2
    unfold fitTail at ht
    rw [hk] at ht
    simp only [Int.reduceBEq, Bool.false_eq_true, if_false, if_true, Bool.and_eq_true] at ht
    simp [hk, ht.1.1.1.1, ht.1.1.1.2, ht.1.1.2]

theorem aloneRule_name (r : RuleR) : (aloneRule r).name = r.name := by
  unfold aloneRule
  split <;> rfl

theorem riseF_alone : ∀ (p : Option (List UInt8)) (l : List RuleR), riseF p (l.map aloneRule) = riseF p l
  | _, [] => by cases ‹Option _› <;> rfl
  | none, r :: l => by simp only [List.map_cons, riseF, aloneRule_name, riseF_alone (some r.name) l]
  | some p, r :: l => by simp only [List.map_cons, riseF, aloneRule_name, riseF_alone (some r.name) l]

theorem ruleOk_alone (o : ObjsR) (l : List ColR) (r : RuleR) : ruleOk o l (aloneRule r) = fitsB l r := by
  obtain ⟨h1, h2⟩ := aloneRule_fits l r
  unfold ruleOk
  rw [h1]
  cases hf : fitsB l r with
  | false => simp
  | true =>
    have h3 := h2 hf
    have : ((aloneRule r).kind == 4) = false := by simpa using h3
    simp [this]

theorem all_alone (o : ObjsR) (l : List ColR) : ∀ rs : List RuleR, (rs.map aloneRule).all (ruleOk o l) = rs.all (fitsB l)
  | [] => rfl
  | r :: rs => by simp only [List.map_cons, List.all_cons, ruleOk_alone, all_alone o l rs]

theorem alone_right (t : TableR) : aloneB t = rightT t := by
  have n1 : nameB [115] = true := by decide +kernel
  have n2 : nameB [116] = true := by decide +kernel
  have n3 : nameB [111] = true := by decide +kernel
  have w1 : (withinN (aloneO t).tables [115] : Int) ≤ 8 := by
    have := within_le (aloneO t).tables 1 [115]
    have h2 : (aloneO t).tables.take 1 = (aloneO t).tables := by simp [aloneO]
    rw [h2] at this
    omega
  have hs : schemaOk (aloneO t) ⟨[115], [111]⟩ = true := by simp [schemaOk, n1, n3, w1]
  have c2 : check2 (aloneO t) = true := by
    have h0 : check2 (aloneO t) = ((((decide ((1 : Int) ≤ 8) && decide ((1 : Int) ≤ 64) && risesB tableCmp [aloneT t]) && risesB (fun a b : SchemaR => Go.Lib.compareBytes a.name b.name) [⟨[115], [111]⟩])) && (schemaOk (aloneO t) ⟨[115], [111]⟩ && true)) := rfl
    rw [h0, hs]
    rfl
  have i1 : decide (idxOf (fun s : SchemaR => s.name == [115]) [⟨[115], [111]⟩] < 0) = false := by decide +kernel
  have hr : rightB (aloneO t) (aloneT t) = (nameB [116] && nameB [111] && colsB t.cols && !decide (8 < ((t.rules.map aloneRule).length : Int)) && !decide (idxOf (fun s : SchemaR => s.name == [115]) [⟨[115], [111]⟩] < 0) &&
      (t.rules.map aloneRule).all (ruleOk (aloneO t) t.cols) && risesB (fun a b => Go.Lib.compareBytes a.name b.name) (t.rules.map aloneRule)) := rfl
  have hc : aloneB t = (check2 (aloneO t) && (rightB (aloneO t) (aloneT t) && true)) := rfl
  rw [hc, c2, hr, n2, n3, i1, all_alone, rises_riseF, riseF_alone, List.length_map]
  unfold rightT
  rw [rulesR_eq]
  simp only [Bool.true_and, Bool.not_false, Bool.and_true, Bool.and_assoc]

end Go.Proofs.Ytamoclnnakdiaaa.Abs
