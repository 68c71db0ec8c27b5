/-
  A nil slice is an empty one: what is shown of calls with empty slices holds of calls with nil ones.
  Conditions: none.
-/
import Derived.Test.YtamoclnnakdiaaaA12
namespace Go.Proofs.Ytamoclnnakdiaaa.Abs
open Go Go.RowKit
set_option linter.unusedVariables false

def LeC (x y : AV) : Prop := x = y ∨ (x = .nils ∧ y = .fz []) ∨ (x = .nilc ∧ y = .fz [])
def leCells : List AV → List AV → Prop
  | [], [] => True
  | x :: xs, y :: ys => LeC x y ∧ leCells xs ys
  | _, _ => False
def LeA (x y : AV) : Prop := LeC x y ∨ ∃ xs ys, x = .agg xs ∧ y = .agg ys ∧ leCells xs ys
def leArgs : List AV → List AV → Prop
  | [], [] => True
  | x :: xs, y :: ys => LeA x y ∧ leArgs xs ys
  | _, _ => False

theorem LeC.rep {x y : AV} (h : LeC x y) {ρ : Nat → Nat} {H : List AObj} {w : World} {v : Value} (hx : Rep ρ H w x v) : Rep ρ H w y v := by
  rcases h with rfl | ⟨rfl, rfl⟩ | ⟨rfl, rfl⟩
  · exact hx
  · cases hx
    exact .fz_emp _ _
  · cases hx
    exact .fz_emp _ _

theorem leCells_get : ∀ (xs ys : List AV), leCells xs ys → xs.length = ys.length ∧ ∀ (k : Nat) (y : AV), ys[k]? = some y → ∃ x, xs[k]? = some x ∧ LeC x y
  | [], [], _ => ⟨rfl, fun k y h => by simp at h⟩
  | x :: xs, y :: ys, h => by
    obtain ⟨h1, h2⟩ := leCells_get xs ys h.2
    refine ⟨by simp [h1], fun k z hz => ?_⟩
    match k, hz with
    | 0, hz => simp only [List.getElem?_cons_zero, Option.some.injEq] at hz; subst hz; exact ⟨x, rfl, h.1⟩
    | k + 1, hz => exact h2 k z hz
  | [], _ :: _, h => h.elim
  | _ :: _, [], h => h.elim

theorem LeA.rep {x y : AV} (h : LeA x y) {ρ : Nat → Nat} {H : List AObj} {w : World} {v : Value} (hx : Rep ρ H w x v) : Rep ρ H w y v := by
  rcases h with h | ⟨xs, ys, rfl, rfl, h⟩
  · exact h.rep hx
  · obtain ⟨h1, h2⟩ := leCells_get xs ys h
    cases hx with
    | agg _ vs q1 q2 q3 =>
      refine .agg ys vs (by omega) ?_ ?_
      · intro k y hk
        obtain ⟨x, hx, _⟩ := h2 k y hk
        exact q2 k x hx
      · intro k y hk
        obtain ⟨x, hx, hle⟩ := h2 k y hk
        exact hle.rep (q3 k x hx)

theorem leArgs_get : ∀ (xs ys : List AV), leArgs xs ys → xs.length = ys.length ∧ ∀ (k : Nat) (y : AV), ys[k]? = some y → ∃ x, xs[k]? = some x ∧ LeA x y
  | [], [], _ => ⟨rfl, fun k y h => by simp at h⟩
  | x :: xs, y :: ys, h => by
    obtain ⟨h1, h2⟩ := leArgs_get xs ys h.2
    refine ⟨by simp [h1], fun k z hz => ?_⟩
    match k, hz with
    | 0, hz => simp only [List.getElem?_cons_zero, Option.some.injEq] at hz; subst hz; exact ⟨x, rfl, h.1⟩
    | k + 1, hz => exact h2 k z hz
  | [], _ :: _, h => h.elim
  | _ :: _, [], h => h.elim

theorem ACallF.le {P : Program} {f : FuncId} {xs ys : List AV} {H : List AObj} {Q : AEnd → List AObj → Prop} (h : ACallF P f ys H Q) (hle : leArgs xs ys) : ACallF P f xs H Q := by
  intro ρ w vs ha hh
  obtain ⟨h1, h2⟩ := leArgs_get xs ys hle
  refine h ρ w vs ⟨by rw [← h1]; exact ha.1, fun k y hk => ?_⟩ hh
  obtain ⟨x, hx, hl⟩ := h2 k y hk
  exact hl.rep (ha.2 k x hx)

theorem QuietF.le {P : Program} {f : FuncId} {xs ys : List AV} {H : List AObj} {v : AV} (h : QuietF P f ys H v) (hle : leArgs xs ys) : QuietF P f xs H v := ACallF.le h hle

theorem QuietF.to {P : Program} {f : FuncId} {xs : List AV} {H : List AObj} {v u : AV} (h : QuietF P f xs H v) (hle : v = u) : QuietF P f xs H u := hle ▸ h

theorem leC_refl (x : AV) : LeC x x := .inl rfl
theorem leC_nil : LeC .nils (.fz []) := .inr (.inl ⟨rfl, rfl⟩)
theorem leC_nilc : LeC .nilc (.fz []) := .inr (.inr ⟨rfl, rfl⟩)
theorem leA_agg {xs ys : List AV} (h : leCells xs ys) : LeA (.agg xs) (.agg ys) := .inr ⟨xs, ys, rfl, rfl, h⟩
theorem leA_refl (x : AV) : LeA x x := .inl (leC_refl x)
theorem leA_nilc : LeA .nilc (.fz []) := .inl leC_nilc
theorem leA_nil : LeA .nils (.fz []) := .inl leC_nil

end Go.Proofs.Ytamoclnnakdiaaa.Abs
