/-
  What a law on commands is called with.
  Conditions: none.
-/
import Derived.Test.YtkohfilgoicghaaC4
import Derived.Test.YtkohfilgoicghaaA14
namespace Go.Proofs.Ytkohfilgoicghaa.Abs
open Go Go.RowKit
set_option linter.unusedVariables false

section
variable {H : Type} {enc : TypeId × Value → H} {w : World} {ρ : Nat → Nat}

theorem opn_text : Opn enc Go.Proofs.Try.prog w ρ 9 (fun avs => ∃ s : List UInt8, tx s ∧ avs = [.str s]) := Opn.str un_9 co_9

def ColR.cells (c : ColR) : List AV := [.str c.name, .int .i64 c.kind, .bool c.null]
def ColR.ok (c : ColR) : Prop := tx c.name

theorem opn_col : Opn enc Go.Proofs.Try.prog w ρ 55 (fun avs => ∃ c : ColR, c.ok ∧ avs = c.cells) := by
  refine (Opn.struct fo_55 co_55 (.cons _ _ _ _ _ _ _ co_9 opn_text (.cons _ _ _ _ _ _ _ co_33 (.int un_33 co_33) (.cons _ _ _ _ _ _ _ co_4 (.bool un_4 co_4) (.nil _))))).mono ?_
  rintro avs ⟨_, _, ⟨n, hn, rfl⟩, ⟨_, _, ⟨k, _, rfl⟩, ⟨_, _, ⟨b, rfl⟩, rfl, rfl⟩, rfl⟩, rfl⟩
  exact ⟨⟨n, k, b⟩, hn, rfl⟩

theorem opn_cols : Opn enc Go.Proofs.Try.prog w ρ 23 (fun avs => ∃ l : List ColR, ((∀ c, c ∈ l → c.ok) ∧ l.length * 32 ≤ 140737488351232) ∧ avs = [.fz (l.map ColR.av)]) :=
  Opn.sliceOf opn_col (fun c => rfl) un_23 co_23 (by rw [co_55]; simp) ⟨AV.agg, fun c => rfl⟩ _ by_23

theorem opn_texts : Opn enc Go.Proofs.Try.prog w ρ 25 (fun avs => ∃ l : List (List UInt8), ((∀ c, c ∈ l → tx c) ∧ l.length * 16 ≤ 140737488351232) ∧ avs = [.fz (l.map AV.str)]) :=
  Opn.sliceOf opn_text (fun c => rfl) un_25 co_25 (by rw [co_9]; simp) ⟨fun l => look l 0, fun c => rfl⟩ _ by_25

theorem opn_int : Opn enc Go.Proofs.Try.prog w ρ 3 (fun avs => ∃ n, (Lit.int .i64 n).wf = true ∧ avs = [.int .i64 n]) := .int un_3 co_3

theorem opn_rule : Opn enc Go.Proofs.Try.prog w ρ 27 (fun avs => ∃ r : RuleR, r.ok ∧ avs = r.cells) := by
  refine (Opn.struct fo_27 co_27 (.cons _ _ _ _ _ _ _ co_9 opn_text (.cons _ _ _ _ _ _ _ co_24 (.int un_24 co_24)
    (.cons _ _ _ _ _ _ _ co_25 opn_texts (.cons _ _ _ _ _ _ _ co_3 opn_int (.cons _ _ _ _ _ _ _ co_3 opn_int (.cons _ _ _ _ _ _ _ co_9 opn_text (.cons _ _ _ _ _ _ _ co_9 opn_text
    (.cons _ _ _ _ _ _ _ co_9 opn_text (.nil _)))))))))).mono ?_
  rintro avs ⟨_, _, ⟨n, hn, rfl⟩, ⟨_, _, ⟨k, _, rfl⟩, ⟨_, _, ⟨l, ⟨hl, hl2⟩, rfl⟩, ⟨_, _, ⟨lo, _, rfl⟩, ⟨_, _, ⟨hi, _, rfl⟩, ⟨_, _, ⟨s, hs, rfl⟩, ⟨_, _, ⟨t, ht, rfl⟩, ⟨_, _, ⟨y, hy, rfl⟩, rfl, rfl⟩, rfl⟩, rfl⟩, rfl⟩, rfl⟩, rfl⟩, rfl⟩, rfl⟩
  exact ⟨⟨n, k, l, lo, hi, s, t, y⟩, ⟨hn, hl, hs, ht, hy⟩, rfl⟩

theorem opn_cmd : Opn enc Go.Proofs.Try.prog w ρ 30 (fun avs => ∃ x : CmdR, x.ok ∧ avs = x.cells) := by
  refine (Opn.struct fo_30 co_30 (.cons _ _ _ _ _ _ _ co_22 (.int un_22 co_22) (.cons _ _ _ _ _ _ _ co_9 opn_text (.cons _ _ _ _ _ _ _ co_9 opn_text
    (.cons _ _ _ _ _ _ _ co_9 opn_text (.cons _ _ _ _ _ _ _ co_9 opn_text (.cons _ _ _ _ _ _ _ co_9 opn_text (.cons _ _ _ _ _ _ _ co_23 opn_cols
    (.cons _ _ _ _ _ _ _ co_27 opn_rule (.cons _ _ _ _ _ _ _ co_28 (.int un_28 co_28) (.cons _ _ _ _ _ _ _ co_4 (.bool un_4 co_4) (.nil _)))))))))))).mono ?_
  rintro avs ⟨_, _, ⟨k, _, rfl⟩, ⟨_, _, ⟨a, ha, rfl⟩, ⟨_, _, ⟨s, hs, rfl⟩, ⟨_, _, ⟨t, ht, rfl⟩, ⟨_, _, ⟨n, hn, rfl⟩, ⟨_, _, ⟨r, hr, rfl⟩, ⟨_, _, ⟨l, ⟨hl, hl2⟩, rfl⟩, ⟨_, _, ⟨u, hu, rfl⟩, ⟨_, _, ⟨g, _, rfl⟩, ⟨_, _, ⟨o, rfl⟩, rfl, rfl⟩, rfl⟩, rfl⟩, rfl⟩, rfl⟩, rfl⟩, rfl⟩, rfl⟩, rfl⟩, rfl⟩
  exact ⟨⟨k, a, s, t, n, r, l, u, g, o⟩, ⟨ha, hs, ht, hn, hr, hl, hu⟩, rfl⟩

end
end Go.Proofs.Ytkohfilgoicghaa.Abs
