/-
  Columns and rules; what a law on them is called with.
  Conditions: none.
-/
import Derived.Test.YtamoclnnakdiaaaB2
import Derived.Test.YtamoclnnakdiaaaA13
import Derived.Test.YtamoclnnakdiaaaA14
import Derived.Test.YtamoclnnakdiaaaA17
namespace Go.Proofs.Ytamoclnnakdiaaa.Abs
open Go Go.RowKit
set_option linter.unusedVariables false
set_option maxRecDepth 100000
set_option maxHeartbeats 4000000
set_option linter.unusedSimpArgs false

/-- A text that is no longer than a text may be. -/
def tx (s : List UInt8) : Prop := s.length ≤ 140737488351232

structure ColR where
  name : List UInt8
  kind : Int
  null : Bool

@[go_sem] def ColR.av (c : ColR) : AV := .agg [.str c.name, .int .i64 c.kind, .bool c.null]

structure RuleR where
  name : List UInt8
  kind : Int
  cols : List (List UInt8)
  low : Int
  high : Int
  schema : List UInt8
  table : List UInt8
  key : List UInt8

@[go_sem] def RuleR.cells (r : RuleR) : List AV := [.str r.name, .int .i64 r.kind, .fz (r.cols.map .str), .int .i64 r.low, .int .i64 r.high, .str r.schema, .str r.table, .str r.key]
def RuleR.ok (r : RuleR) : Prop := tx r.name ∧ (∀ s, s ∈ r.cols → tx s) ∧ tx r.schema ∧ tx r.table ∧ tx r.key

structure ValR where
  kind : Int
  num : Int
  text : List UInt8
  deriving DecidableEq
@[go_sem] def ValR.av (v : ValR) : AV := .agg [.int .i64 v.kind, .int .i64 v.num, .str v.text]

@[go_sem] def RuleR.av (r : RuleR) : AV := .agg r.cells

structure SchemaR where
  name : List UInt8
  owner : List UInt8
def SchemaR.cells (s : SchemaR) : List AV := [.str s.name, .str s.owner]
@[go_sem] def SchemaR.av (s : SchemaR) : AV := .agg [.str s.name, .str s.owner]

structure TableR where
  schema : List UInt8
  name : List UInt8
  owner : List UInt8
  cols : List ColR
  rules : List RuleR
@[go_sem] def TableR.cells (t : TableR) : List AV := [.str t.schema, .str t.name, .str t.owner, .fz (t.cols.map ColR.av), .fz (t.rules.map RuleR.av)]
@[go_sem] def TableR.av (t : TableR) : AV := .agg t.cells

structure ObjsR where
  schemas : List SchemaR
  tables : List TableR
@[go_sem] def ObjsR.cells (o : ObjsR) : List AV := [.fz (o.schemas.map SchemaR.av), .fz (o.tables.map TableR.av)]

section
variable {H : Type} {enc : TypeId × Value → H} {w : World} {ρ : Nat → Nat}

theorem opn_text : Opn enc Go.Proofs.Try.prog w ρ 9 (fun avs => ∃ s : List UInt8, tx s ∧ avs = [.str s]) := Opn.str un_9 co_9

def ColR.cells (c : ColR) : List AV := [.str c.name, .int .i64 c.kind, .bool c.null]
def ColR.ok (c : ColR) : Prop := tx c.name

theorem opn_col : Opn enc Go.Proofs.Try.prog w ρ 46 (fun avs => ∃ c : ColR, c.ok ∧ avs = c.cells) := by
  refine (Opn.struct fo_46 co_46 (.cons _ _ _ _ _ _ _ co_9 opn_text (.cons _ _ _ _ _ _ _ co_22 (.int un_22 co_22) (.cons _ _ _ _ _ _ _ co_4 (.bool un_4 co_4) (.nil _))))).mono ?_
  rintro avs ⟨_, _, ⟨n, hn, rfl⟩, ⟨_, _, ⟨k, _, rfl⟩, ⟨_, _, ⟨b, rfl⟩, rfl, rfl⟩, rfl⟩, rfl⟩
  exact ⟨⟨n, k, b⟩, hn, rfl⟩

theorem opn_cols : Opn enc Go.Proofs.Try.prog w ρ 25 (fun avs => ∃ l : List ColR, ((∀ c, c ∈ l → c.ok) ∧ l.length * 32 ≤ 140737488351232) ∧ avs = [.fz (l.map ColR.av)]) :=
  Opn.sliceOf opn_col (fun c => rfl) un_25 co_25 (by rw [co_46]; simp) ⟨AV.agg, fun c => rfl⟩ _ by_25

theorem opn_texts : Opn enc Go.Proofs.Try.prog w ρ 48 (fun avs => ∃ l : List (List UInt8), ((∀ c, c ∈ l → tx c) ∧ l.length * 16 ≤ 140737488351232) ∧ avs = [.fz (l.map AV.str)]) :=
  Opn.sliceOf opn_text (fun c => rfl) un_48 co_48 (by rw [co_9]; simp) ⟨fun l => look l 0, fun c => rfl⟩ _ by_48

theorem opn_int : Opn enc Go.Proofs.Try.prog w ρ 3 (fun avs => ∃ n, (Lit.int .i64 n).wf = true ∧ avs = [.int .i64 n]) := .int un_3 co_3

theorem opn_rule : Opn enc Go.Proofs.Try.prog w ρ 50 (fun avs => ∃ r : RuleR, r.ok ∧ avs = r.cells) := by
  refine (Opn.struct fo_50 co_50 (.cons _ _ _ _ _ _ _ co_9 opn_text (.cons _ _ _ _ _ _ _ co_47 (.int un_47 co_47)
    (.cons _ _ _ _ _ _ _ co_48 opn_texts (.cons _ _ _ _ _ _ _ co_3 opn_int (.cons _ _ _ _ _ _ _ co_3 opn_int (.cons _ _ _ _ _ _ _ co_9 opn_text (.cons _ _ _ _ _ _ _ co_9 opn_text
    (.cons _ _ _ _ _ _ _ co_9 opn_text (.nil _)))))))))).mono ?_
  rintro avs ⟨_, _, ⟨n, hn, rfl⟩, ⟨_, _, ⟨k, _, rfl⟩, ⟨_, _, ⟨l, ⟨hl, hl2⟩, rfl⟩, ⟨_, _, ⟨lo, _, rfl⟩, ⟨_, _, ⟨hi, _, rfl⟩, ⟨_, _, ⟨s, hs, rfl⟩, ⟨_, _, ⟨t, ht, rfl⟩, ⟨_, _, ⟨y, hy, rfl⟩, rfl, rfl⟩, rfl⟩, rfl⟩, rfl⟩, rfl⟩, rfl⟩, rfl⟩, rfl⟩
  exact ⟨⟨n, k, l, lo, hi, s, t, y⟩, ⟨hn, hl, hs, ht, hy⟩, rfl⟩

def ValR.cells (v : ValR) : List AV := [.int .i64 v.kind, .int .i64 v.num, .str v.text]
theorem opn_val : Opn enc Go.Proofs.Try.prog w ρ 24 (fun avs => ∃ v : ValR, tx v.text ∧ avs = v.cells) := by
  refine (Opn.struct fo_24 co_24 (.cons _ _ _ _ _ _ _ co_22 (.int un_22 co_22) (.cons _ _ _ _ _ _ _ co_3 opn_int (.cons _ _ _ _ _ _ _ co_9 opn_text (.nil _))))).mono ?_
  rintro avs ⟨_, _, ⟨k, _, rfl⟩, ⟨_, _, ⟨n, _, rfl⟩, ⟨_, _, ⟨s, hs, rfl⟩, rfl, rfl⟩, rfl⟩, rfl⟩
  exact ⟨⟨k, n, s⟩, hs, rfl⟩

theorem opn_vals : Opn enc Go.Proofs.Try.prog w ρ 29 (fun avs => ∃ l : List ValR, ((∀ c, c ∈ l → tx c.text) ∧ l.length * 32 ≤ 140737488351232) ∧ avs = [.fz (l.map ValR.av)]) :=
  Opn.sliceOf opn_val (fun c => rfl) un_29 co_29 (by rw [co_24]; simp) ⟨AV.agg, fun c => rfl⟩ _ by_29

def RuleR.opn (r : RuleR) : Prop := r.ok ∧ r.cols.length * 16 ≤ 140737488351232
theorem opn_rule2 : Opn enc Go.Proofs.Try.prog w ρ 50 (fun avs => ∃ r : RuleR, r.opn ∧ avs = r.cells) := by
  refine (Opn.struct fo_50 co_50 (.cons _ _ _ _ _ _ _ co_9 opn_text (.cons _ _ _ _ _ _ _ co_47 (.int un_47 co_47)
    (.cons _ _ _ _ _ _ _ co_48 opn_texts (.cons _ _ _ _ _ _ _ co_3 opn_int (.cons _ _ _ _ _ _ _ co_3 opn_int (.cons _ _ _ _ _ _ _ co_9 opn_text (.cons _ _ _ _ _ _ _ co_9 opn_text
    (.cons _ _ _ _ _ _ _ co_9 opn_text (.nil _)))))))))).mono ?_
  rintro avs ⟨_, _, ⟨n, hn, rfl⟩, ⟨_, _, ⟨k, _, rfl⟩, ⟨_, _, ⟨l, ⟨hl, hl2⟩, rfl⟩, ⟨_, _, ⟨lo, _, rfl⟩, ⟨_, _, ⟨hi, _, rfl⟩, ⟨_, _, ⟨s, hs, rfl⟩, ⟨_, _, ⟨t, ht, rfl⟩, ⟨_, _, ⟨y, hy, rfl⟩, rfl, rfl⟩, rfl⟩, rfl⟩, rfl⟩, rfl⟩, rfl⟩, rfl⟩, rfl⟩
  exact ⟨⟨n, k, l, lo, hi, s, t, y⟩, ⟨⟨hn, hl, hs, ht, hy⟩, hl2⟩, rfl⟩

theorem opn_rules : Opn enc Go.Proofs.Try.prog w ρ 26 (fun avs => ∃ l : List RuleR, ((∀ c, c ∈ l → c.opn) ∧ l.length * 112 ≤ 140737488351232) ∧ avs = [.fz (l.map RuleR.av)]) :=
  Opn.sliceOf opn_rule2 (fun c => rfl) un_26 co_26 (by rw [co_50]; simp) ⟨AV.agg, fun c => rfl⟩ _ by_26

def TableR.opn (t : TableR) : Prop := (tx t.schema ∧ tx t.name ∧ tx t.owner) ∧ (∀ c, c ∈ t.cols → tx c.name) ∧ t.cols.length * 32 ≤ 140737488351232 ∧ (∀ r, r ∈ t.rules → r.opn) ∧ t.rules.length * 112 ≤ 140737488351232
theorem opn_table : Opn enc Go.Proofs.Try.prog w ρ 28 (fun avs => ∃ t : TableR, t.opn ∧ avs = t.cells) := by
  refine (Opn.struct fo_28 co_28 (.cons _ _ _ _ _ _ _ co_9 opn_text (.cons _ _ _ _ _ _ _ co_9 opn_text (.cons _ _ _ _ _ _ _ co_9 opn_text
    (.cons _ _ _ _ _ _ _ co_25 opn_cols (.cons _ _ _ _ _ _ _ co_26 opn_rules (.nil _))))))).mono ?_
  rintro avs ⟨_, _, ⟨s, hs, rfl⟩, ⟨_, _, ⟨n, hn, rfl⟩, ⟨_, _, ⟨o, ho, rfl⟩, ⟨_, _, ⟨l, ⟨hl, hl2⟩, rfl⟩, ⟨_, _, ⟨q, ⟨hq, hq2⟩, rfl⟩, rfl, rfl⟩, rfl⟩, rfl⟩, rfl⟩, rfl⟩
  exact ⟨⟨s, n, o, l, q⟩, ⟨⟨hs, hn, ho⟩, hl, hl2, hq, hq2⟩, rfl⟩

theorem opn_schema : Opn enc Go.Proofs.Try.prog w ρ 118 (fun avs => ∃ s : SchemaR, (tx s.name ∧ tx s.owner) ∧ avs = s.cells) := by
  refine (Opn.struct fo_118 co_118 (.cons _ _ _ _ _ _ _ co_9 opn_text (.cons _ _ _ _ _ _ _ co_9 opn_text (.nil _)))).mono ?_
  rintro avs ⟨_, _, ⟨s, hs, rfl⟩, ⟨_, _, ⟨n, hn, rfl⟩, rfl, rfl⟩, rfl⟩
  exact ⟨⟨s, n⟩, ⟨hs, hn⟩, rfl⟩
theorem opn_schemas : Opn enc Go.Proofs.Try.prog w ρ 51 (fun avs => ∃ l : List SchemaR, ((∀ c, c ∈ l → tx c.name ∧ tx c.owner) ∧ l.length * 32 ≤ 140737488351232) ∧ avs = [.fz (l.map SchemaR.av)]) :=
  Opn.sliceOf opn_schema (fun c => rfl) un_51 co_51 (by rw [co_118]; simp) ⟨AV.agg, fun c => rfl⟩ _ by_51
theorem opn_tables : Opn enc Go.Proofs.Try.prog w ρ 52 (fun avs => ∃ l : List TableR, ((∀ c, c ∈ l → c.opn) ∧ l.length * 96 ≤ 140737488351232) ∧ avs = [.fz (l.map TableR.av)]) :=
  Opn.sliceOf opn_table (fun c => rfl) un_52 co_52 (by rw [co_28]; simp) ⟨AV.agg, fun c => rfl⟩ _ by_52
def ObjsR.opn (o : ObjsR) : Prop := ((∀ c, c ∈ o.schemas → tx c.name ∧ tx c.owner) ∧ o.schemas.length * 32 ≤ 140737488351232) ∧ (∀ c, c ∈ o.tables → c.opn) ∧ o.tables.length * 96 ≤ 140737488351232
theorem opn_objs : Opn enc Go.Proofs.Try.prog w ρ 54 (fun avs => ∃ o : ObjsR, o.opn ∧ avs = o.cells) := by
  refine (Opn.struct fo_54 co_54 (.cons _ _ _ _ _ _ _ co_51 opn_schemas (.cons _ _ _ _ _ _ _ co_52 opn_tables (.nil _)))).mono ?_
  rintro avs ⟨_, _, ⟨s, hs, rfl⟩, ⟨_, _, ⟨n, hn, rfl⟩, rfl, rfl⟩, rfl⟩
  exact ⟨⟨s, n⟩, ⟨hs, hn⟩, rfl⟩

structure RowOpR where
  kind : Int
  role : List UInt8
  schema : List UInt8
  table : List UInt8
  row : List ValR
  col : List UInt8
  val : ValR
@[go_sem] def RowOpR.cells (x : RowOpR) : List AV := [.int .i64 x.kind, .str x.role, .str x.schema, .str x.table, .fz (x.row.map ValR.av), .str x.col, .int .i64 x.val.kind, .int .i64 x.val.num, .str x.val.text]
@[go_sem] def RowOpR.av (x : RowOpR) : AV := .agg x.cells
def RowOpR.opn (x : RowOpR) : Prop := (tx x.role ∧ tx x.schema ∧ tx x.table) ∧ ((∀ c, c ∈ x.row → tx c.text) ∧ x.row.length * 32 ≤ 140737488351232) ∧ tx x.col ∧ tx x.val.text
theorem opn_rowop : Opn enc Go.Proofs.Try.prog w ρ 68 (fun avs => ∃ x : RowOpR, x.opn ∧ avs = x.cells) := by
  refine (Opn.struct fo_68 co_68 (.cons _ _ _ _ _ _ _ co_66 (.int un_66 co_66) (.cons _ _ _ _ _ _ _ co_9 opn_text (.cons _ _ _ _ _ _ _ co_9 opn_text (.cons _ _ _ _ _ _ _ co_9 opn_text
    (.cons _ _ _ _ _ _ _ co_29 opn_vals (.cons _ _ _ _ _ _ _ co_9 opn_text (.cons _ _ _ _ _ _ _ co_24 opn_val (.nil _))))))))).mono ?_
  rintro avs ⟨_, _, ⟨k, _, rfl⟩, ⟨_, _, ⟨r, hr, rfl⟩, ⟨_, _, ⟨s, hs, rfl⟩, ⟨_, _, ⟨t, ht, rfl⟩, ⟨_, _, ⟨l, hl, rfl⟩, ⟨_, _, ⟨c, hc, rfl⟩, ⟨_, _, ⟨v, hv, rfl⟩, rfl, rfl⟩, rfl⟩, rfl⟩, rfl⟩, rfl⟩, rfl⟩, rfl⟩
  exact ⟨⟨k, r, s, t, l, c, v⟩, ⟨⟨hr, hs, ht⟩, hl, hc, hv⟩, rfl⟩

end
theorem look_map {α : Type} {g : α → AV} {l : List α} {i : Nat} {a : α} (h : l[i]? = some a) : look (l.map g) i = g a := by
  rw [look_eq, List.getD_eq_getElem?_getD, List.getElem?_map, h]
  rfl

@[simp] theorem below_col (n : Nat) (c : ColR) : Below' n c.av := by simp [ColR.av]
@[simp] theorem below_rule (n : Nat) (r : RuleR) : Below' n r.av := by simp [RuleR.av, RuleR.cells]
@[simp] theorem below_val (n : Nat) (v : ValR) : Below' n v.av := by simp [ValR.av]
@[simp] theorem below_schema (n : Nat) (s : SchemaR) : Below' n s.av := by simp [SchemaR.av]
@[simp] theorem below_table (n : Nat) (t : TableR) : Below' n t.av := by simp [TableR.av, TableR.cells]

end Go.Proofs.Ytamoclnnakdiaaa.Abs
