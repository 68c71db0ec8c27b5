/-
  The calls that the machine does by itself, as a table for the interpreter.
  Conditions: none.
-/
import Derived.Test.YtamoclnnakdiaaaB2
import Derived.Test.YtamoclnnakdiaaaI3
namespace Go.Proofs.Ytamoclnnakdiaaa.Abs
open Go Go.RowKit
set_option linter.unusedVariables false

def ex0 : Exf := fun f args =>
  match args with
  | [.str s] => bif Nat.beq f 74 && Nat.ble s.length 140737488351232 then some (.bool (nameB s)) else none
  | [.str s, .int .u8 n] => bif Nat.beq f 127 && decide (0 ≤ n) && decide (n < 256) then some (.int .i64 (Go.Lib.indexByte s (UInt8.ofNat n.toNat))) else none
  | [.str s, .str t] => bif Nat.beq f 73 then some (.int .i64 (Go.Lib.compareBytes s t)) else none
  | _ => none

theorem ex0_ok : ExOK Go.Proofs.Try.prog ex0 := by
  intro f args v h H
  unfold ex0 at h
  split at h
  · rename_i s
    generalize hb : (Nat.beq f 74 && Nat.ble s.length 140737488351232) = b at h
    cases b with
    | false => cases h
    | true =>
    simp only [Bool.and_eq_true, Nat.beq_eq, Nat.ble_eq] at hb
    obtain ⟨rfl, h1⟩ := hb
    cases h
    exact name_q s h1 H
  · rename_i s n
    generalize hb : (Nat.beq f 127 && decide (0 ≤ n) && decide (n < 256)) = b at h
    cases b with
    | false => cases h
    | true =>
    simp only [Bool.and_eq_true, Nat.beq_eq, decide_eq_true_eq] at hb
    obtain ⟨⟨rfl, h1⟩, h2⟩ := hb
    cases h
    have := indexByteString_q s (UInt8.ofNat n.toNat) H
    have hn : ((UInt8.ofNat n.toNat).toNat : Int) = n := by
      rw [UInt8.toNat_ofNat']
      omega
    rwa [hn] at this
  · rename_i s t
    generalize hb : Nat.beq f 73 = b at h
    cases b with
    | false => cases h
    | true =>
    simp only [Nat.beq_eq] at hb
    subst hb
    cases h
    exact strCompare_q s t H
  · cases h

end Go.Proofs.Ytamoclnnakdiaaa.Abs
