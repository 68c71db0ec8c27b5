/-
  What holds between two parts of the code, with a fact.
  Conditions: none.
-/
import Derived.Test.YtamoclnnakdiaaaA20
namespace Go.Proofs.Ytamoclnnakdiaaa.Abs
open Go Go.RowKit
set_option linter.unusedVariables false

theorem awp_seq_fact {rd : Bool} {P : Program} {m : Nat} {x y : Code} {Q : AExit → AState → Prop} {T : List AV} {H : List AObj} (p : Prop) (u : List (Nat × AV)) (H' : List AObj)
    (h1 : ∀ K : AState → Prop, (∀ S', p → Weak m S' ⟨setT T u, H'⟩ → K S') → AWP P rd m x (AExit.andThen K Q) ⟨T, H⟩) (h2 : p → AWP P rd m y Q ⟨setT T u, H'⟩) : AWP P rd m (.seq x y) Q ⟨T, H⟩ :=
  awp_seq (h1 _ fun S' hp hw => AWP.weak _ hw (h2 hp))

end Go.Proofs.Ytamoclnnakdiaaa.Abs
