/-
  Columns and rules; what a law on them is called with.
  Conditions: none.
-/
import Derived.Test.YtamoclnnakdiaaaB2
import Derived.Test.YtamoclnnakdiaaaA13
import Derived.Test.YtamoclnnakdiaaaA14
import Derived.Test.YtamoclnnakdiaaaA17
namespace Go.Proofs.Ytamoclnnakdiaaa.Abs
open Go Go.RowKit
set_option linter.unusedVariables false
set_option maxRecDepth 100000
set_option maxHeartbeats 4000000
set_option linter.unusedSimpArgs false

/-- A text that is no longer than a text may be. -/
def tx (s : List UInt8) : Prop := s.length ≤ 140737488351232

structure ColR where
  name : List UInt8
  kind : Int
  null : Bool

@[go_sem] def ColR.av (c : ColR) : AV := .agg [.str c.name, .int .i64 c.kind, .bool c.null]

structure RuleR where
  name : List UInt8
  kind : Int
  cols : List (List UInt8)
  low : Int
  high : Int
  schema : List UInt8
  table : List UInt8
  key : List UInt8

@[go_sem] def RuleR.cells (r : RuleR) : List AV := [.str r.name, .int .i64 r.kind, .fz (r.cols.map .str), .int .i64 r.low, .int .i64 r.high, .str r.schema, .str r.table, .str r.key]
def RuleR.ok (r : RuleR) : Prop := tx r.name ∧ (∀ s, s ∈ r.cols → tx s) ∧ tx r.schema ∧ tx r.table ∧ tx r.key

section
variable {H : Type} {enc : TypeId × Value → H} {w : World} {ρ : Nat → Nat}

theorem opn_text : Opn enc Go.Proofs.Try.prog w ρ 9 (fun avs => ∃ s : List UInt8, tx s ∧ avs = [.str s]) := Opn.str un_9 co_9

def ColR.cells (c : ColR) : List AV := [.str c.name, .int .i64 c.kind, .bool c.null]
def ColR.ok (c : ColR) : Prop := tx c.name

theorem opn_col : Opn enc Go.Proofs.Try.prog w ρ 46 (fun avs => ∃ c : ColR, c.ok ∧ avs = c.cells) := by
  refine (Opn.struct fo_46 co_46 (.cons _ _ _ _ _ _ _ co_9 opn_text (.cons _ _ _ _ _ _ _ co_22 (.int un_22 co_22) (.cons _ _ _ _ _ _ _ co_4 (.bool un_4 co_4) (.nil _))))).mono ?_
  rintro avs ⟨_, _, ⟨n, hn, rfl⟩, ⟨_, _, ⟨k, _, rfl⟩, ⟨_, _, ⟨b, rfl⟩, rfl, rfl⟩, rfl⟩, rfl⟩
  exact ⟨⟨n, k, b⟩, hn, rfl⟩

theorem opn_cols : Opn enc Go.Proofs.Try.prog w ρ 25 (fun avs => ∃ l : List ColR, ((∀ c, c ∈ l → c.ok) ∧ l.length * 32 ≤ 140737488351232) ∧ avs = [.fz (l.map ColR.av)]) :=
  Opn.sliceOf opn_col (fun c => rfl) un_25 co_25 (by rw [co_46]; simp) ⟨AV.agg, fun c => rfl⟩ _ by_25

theorem opn_texts : Opn enc Go.Proofs.Try.prog w ρ 48 (fun avs => ∃ l : List (List UInt8), ((∀ c, c ∈ l → tx c) ∧ l.length * 16 ≤ 140737488351232) ∧ avs = [.fz (l.map AV.str)]) :=
  Opn.sliceOf opn_text (fun c => rfl) un_48 co_48 (by rw [co_9]; simp) ⟨fun l => look l 0, fun c => rfl⟩ _ by_48

theorem opn_int : Opn enc Go.Proofs.Try.prog w ρ 3 (fun avs => ∃ n, (Lit.int .i64 n).wf = true ∧ avs = [.int .i64 n]) := .int un_3 co_3

theorem opn_rule : Opn enc Go.Proofs.Try.prog w ρ 50 (fun avs => ∃ r : RuleR, r.ok ∧ avs = r.cells) := by
  refine (Opn.struct fo_50 co_50 (.cons _ _ _ _ _ _ _ co_9 opn_text (.cons _ _ _ _ _ _ _ co_47 (.int un_47 co_47)
    (.cons _ _ _ _ _ _ _ co_48 opn_texts (.cons _ _ _ _ _ _ _ co_3 opn_int (.cons _ _ _ _ _ _ _ co_3 opn_int (.cons _ _ _ _ _ _ _ co_9 opn_text (.cons _ _ _ _ _ _ _ co_9 opn_text
    (.cons _ _ _ _ _ _ _ co_9 opn_text (.nil _)))))))))).mono ?_
  rintro avs ⟨_, _, ⟨n, hn, rfl⟩, ⟨_, _, ⟨k, _, rfl⟩, ⟨_, _, ⟨l, ⟨hl, hl2⟩, rfl⟩, ⟨_, _, ⟨lo, _, rfl⟩, ⟨_, _, ⟨hi, _, rfl⟩, ⟨_, _, ⟨s, hs, rfl⟩, ⟨_, _, ⟨t, ht, rfl⟩, ⟨_, _, ⟨y, hy, rfl⟩, rfl, rfl⟩, rfl⟩, rfl⟩, rfl⟩, rfl⟩, rfl⟩, rfl⟩, rfl⟩
  exact ⟨⟨n, k, l, lo, hi, s, t, y⟩, ⟨hn, hl, hs, ht, hy⟩, rfl⟩

end
end Go.Proofs.Ytamoclnnakdiaaa.Abs
