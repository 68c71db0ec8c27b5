/-
  Slices that a call builds element by element and hands out.
  Conditions: none.
-/
import Derived.Test.YtamoclnnakdiaaaA13
namespace Go.Proofs.Ytamoclnnakdiaaa.Abs
open Go Go.RowKit
set_option linter.unusedVariables false

/-- x is a slice of els, built behind H: nil, or the one array behind H. -/
def Bld (H : List AObj) (e : TypeId) (sz : Nat) (els : List AV) (x : AV) (H' : List AObj) : Prop :=
  (els = [] ∧ x = .nils ∧ H' = H) ∨ (els ≠ [] ∧ ∃ g, x = .sl H.length g 0 els.length ∧ H' = H ++ [.arr g e sz els])

theorem Bld.len {H H' : List AObj} {e : TypeId} {sz : Nat} {els : List AV} {x : AV} (h : Bld H e sz els x H') : H.length ≤ H'.length := by
  rcases h with ⟨_, _, rfl⟩ | ⟨_, g, _, rfl⟩ <;> simp

theorem weak_le {m : Nat} {T T' : List AV} {H : List AObj} (h : leArgs T T') : Weak m ⟨T, H⟩ ⟨T', H⟩ := by
  intro ρ w a hr
  obtain ⟨h1, h2⟩ := leArgs_get T T' h
  refine ⟨ρ, ⟨⟨hr.tmps.1.trans h1, fun k y hk => ?_⟩, hr.heap⟩, .refl m ρ H w⟩
  obtain ⟨x, hx, hl⟩ := h2 k y hk
  exact hl.rep (hr.tmps.2 k x hx)

theorem weak_bld {H H' : List AObj} {e : TypeId} {sz : Nat} {els : List AV} {x : AV} (hb : Bld H e sz els x H') (hB : HB H) (hels : ∀ y, y ∈ els → Below' H.length y) : Weak H.length ⟨[x], H'⟩ ⟨[.fz els], H⟩ := by
  rcases hb with ⟨rfl, rfl, rfl⟩ | ⟨hne, g, rfl, rfl⟩
  · exact weak_le ⟨leA_nil, trivial⟩
  · have hid : hget (H ++ [.arr g e sz els]) H.length = some (.arr g e sz els) := by rw [hget_app0]; rfl
    have h1 : Weak H.length ⟨[.sl H.length g 0 els.length], H ++ [.arr g e sz els]⟩ ⟨[.fz els], hset (H ++ [.arr g e sz els]) H.length .dead⟩ :=
      weak_freeze H.length (Nat.le_refl _) hid ⟨.inr (.sl 0 els.length els (by simp)), trivial⟩
    rw [hset_app0] at h1
    exact h1.trans (weak_trunc (Nat.le_refl _) (LeT.refl _) (fun y hy => by simp only [List.mem_singleton] at hy; subst hy; exact .fz els hels) hB)

/-- The end of a call that hands out what it built. -/
theorem end_bld {P : Program} {fn : Func} {T : List AV} {H H' : List AObj} {e : TypeId} {sz : Nat} {els : List AV} {x : AV} (hB : HB H) (hr : resT P fn T H' = some x) (hb : Bld H e sz els x H') (hels : ∀ y, y ∈ els → Below' H.length y) :
    bodyEnd P fn H.length (fun y H'' => y = .ret (.fz els) ∧ H'' = H) .ret ⟨T, H'⟩ :=
  ⟨x, hr, ⟨[.fz els], H⟩, weak_bld hb hB hels, .fz els, rfl, rfl, rfl⟩

end Go.Proofs.Ytamoclnnakdiaaa.Abs
