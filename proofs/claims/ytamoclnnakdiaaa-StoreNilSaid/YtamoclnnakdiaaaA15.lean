/-
  From a contract over abstract values to a call in a world.
  Conditions: none.
-/
import Derived.Test.YtamoclnnakdiaaaA14
import Derived.Below
namespace Go.Proofs.Ytamoclnnakdiaaa.Abs
open Go Go.RowKit
set_option linter.unusedVariables false

theorem ACallF.acalls {P : Program} {f : FuncId} {args : List AV} {H : List AObj} {Q : AEnd → List AObj → Prop} (hf : hb P f = true) (h : ACallF P f args H Q) : ACalls P f args H Q := by
  intro ρ w vs ha hh
  rcases h ρ w vs ha hh with ⟨w1, _, _, h3⟩ | ⟨v, w', h1, _⟩
  · exact h3
  · rw [run_callFunc hf] at h1
    cases h1

theorem heapOK_nil (ρ : Nat → Nat) (w : World) : HeapOK ρ [] w := by
  constructor <;> intros <;> simp_all

/-- A law's row: the call gives true, and what was there stays. -/
theorem QuietF.row {P : Program} {f : FuncId} {args : List AV} (hf : hb P f = true) (h : QuietF P f args [] (.bool true)) {w : World} {vs : Array Value} (hr : RepL (fun _ => 0) [] w args vs) :
    Calls P f vs w fun e w' => e = .returned (.bool true) ∧ Below w.heap.size w w' := by
  refine (ACallF.acalls hf h (fun _ => 0) w vs hr (heapOK_nil _ w)).mono ?_
  rintro e w' ⟨x, H', ρ', ⟨rfl, rfl⟩, h2, h3, h4⟩
  refine ⟨?_, h4.os, h4.tape, h4.output, h4.size, fun k hk => h4.mem k hk (not_mu k)⟩
  cases e <;> simp only [endIs] at h2
  cases h2
  rfl

theorem repL_nil {ρ : Nat → Nat} {w : World} : RepL ρ [] w [] #[] := ⟨rfl, fun k x h => by simp at h⟩
theorem repL_of {ρ : Nat → Nat} {w : World} {avs : List AV} {vs : List Value} (h : avs.length = vs.length) (hr : ∀ (k : Nat) (x : AV), avs[k]? = some x → Rep ρ [] w x (vs.getD k undef)) : RepL ρ [] w avs vs.toArray :=
  ⟨by simp [h], fun k x hk => by have := hr k x hk; simpa [arr_getD] using this⟩
theorem repL_one {ρ : Nat → Nat} {w : World} {x : AV} {v : Value} (h : Rep ρ [] w x v) : RepL ρ [] w [x] #[v] := repL_of rfl (by
  intro k y hk
  match k, hk with
  | 0, hk => cases hk; exact h
  | k + 1, hk => simp at hk)
theorem repL_two {ρ : Nat → Nat} {w : World} {x y : AV} {v u : Value} (h1 : Rep ρ [] w x v) (h2 : Rep ρ [] w y u) : RepL ρ [] w [x, y] #[v, u] := repL_of rfl (by
  intro k z hk
  match k, hk with
  | 0, hk => cases hk; exact h1
  | 1, hk => cases hk; exact h2
  | k + 2, hk => simp at hk)
theorem repL_three {ρ : Nat → Nat} {w : World} {x y z : AV} {v u t : Value} (h1 : Rep ρ [] w x v) (h2 : Rep ρ [] w y u) (h3 : Rep ρ [] w z t) : RepL ρ [] w [x, y, z] #[v, u, t] := repL_of rfl (by
  intro k a hk
  match k, hk with
  | 0, hk => cases hk; exact h1
  | 1, hk => cases hk; exact h2
  | 2, hk => cases hk; exact h3
  | k + 3, hk => simp at hk)
theorem repL_four {ρ : Nat → Nat} {w : World} {x y z a : AV} {v u t b : Value} (h1 : Rep ρ [] w x v) (h2 : Rep ρ [] w y u) (h3 : Rep ρ [] w z t) (h4 : Rep ρ [] w a b) : RepL ρ [] w [x, y, z, a] #[v, u, t, b] := repL_of rfl (by
  intro k c hk
  match k, hk with
  | 0, hk => cases hk; exact h1
  | 1, hk => cases hk; exact h2
  | 2, hk => cases hk; exact h3
  | 3, hk => cases hk; exact h4
  | k + 4, hk => simp at hk)

end Go.Proofs.Ytamoclnnakdiaaa.Abs
