/-
  The machine's own rows (IndexByteString, cmpstring), and the ends of calls.
  Conditions: none.
-/
import Derived.Test.YtamoclnnakdiaaaT
import Derived.Lib.Bytealg
namespace Go.Proofs.Ytamoclnnakdiaaa.Abs
open Go Go.RowKit
set_option linter.unusedVariables false
set_option linter.unusedSimpArgs false

/-- The end of a call that only answers: its own objects go. -/
theorem end_quiet {P : Program} {fn : Func} {T : List AV} {H L : List AObj} {u v : AV} (hB : HB H) (hr : resT P fn T (H ++ L) = some u) (hu : u = v) (hv : Below' H.length v) : bodyEnd P fn H.length (fun x H' => x = .ret v ∧ H' = H) .ret ⟨T, H ++ L⟩ :=
  ⟨u, hr, ⟨[u], H⟩, weak_trunc (Nat.le_refl _) (LeT.refl _) (fun x hx => by simp only [List.mem_singleton] at hx; subst hx; subst hu; exact hv) hB, u, rfl, by rw [hu], rfl⟩

theorem end_quiet0 {P : Program} {fn : Func} {T : List AV} {H : List AObj} {u v : AV} {m : Nat} (hr : resT P fn T H = some u) (hu : u = v) : bodyEnd P fn m (fun x H' => x = .ret v ∧ H' = H) .ret ⟨T, H⟩ :=
  ⟨u, hr, ⟨[u], H⟩, Weak.refl _ _, u, rfl, by rw [hu], rfl⟩

theorem extern_run {P : Program} {f : FuncId} {fn : Func} {e : Array Value → Sem Value} (hf : P.funcs[f]? = some fn) (hn : (fn.name == "runtime.NumGoroutine") = false) (hb : fn.body.isNone = true)
    (h1 : Extern.findNext fn = none) (h2 : Extern.find fn = some e) (vs : Array Value) (w : World) : (callFunc f vs).run P w = ((e vs).run P w).andThen fun v w' => .ok (.value v) w' := by
  have hn' : fn.name ≠ "runtime.NumGoroutine" := by simpa using hn
  have hb' : fn.body = none := by cases hx : fn.body <;> simp_all
  simp [callFunc, hf, hn', hb', h1, h2]

theorem quiet_extern {P : Program} {f : FuncId} {args : List AV} {H : List AObj} {v : AV} (h : ∀ (ρ : Nat → Nat) (w : World) (vs : Array Value), RepL ρ H w args vs → ∃ u, (callFunc f vs).run P w = .ok (.value u) w ∧ Rep ρ H w v u) : QuietF P f args H v := by
  intro ρ w vs ha hh
  obtain ⟨u, h1, h2⟩ := h ρ w vs ha
  exact .inr ⟨u, w, h1, .ret v, H, ρ, ⟨rfl, rfl⟩, h2, hh, .refl _ ρ H w⟩

theorem two_args {ρ : Nat → Nat} {H : List AObj} {w : World} {x y : AV} {vs : Array Value} (h : RepL ρ H w [x, y] vs) : ∃ a b, vs = #[a, b] ∧ Rep ρ H w x a ∧ Rep ρ H w y b := by
  obtain ⟨h1, h2⟩ := h
  have hs : vs.size = 2 := h1
  refine ⟨vs.getD 0 undef, vs.getD 1 undef, ?_, h2 0 x rfl, h2 1 y rfl⟩
  apply Array.ext
  · simp [hs]
  · intro i hi1 hi2
    have : i = 0 ∨ i = 1 := by omega
    rcases this with rfl | rfl <;> simp [hs]

theorem indexByteString_q (s : List UInt8) (c : UInt8) (H : List AObj) : QuietF Go.Proofs.Try.prog 127 [.str s, .int .u8 (c.toNat : Int)] H (.int .i64 (Go.Lib.indexByte s c)) := by
  refine quiet_extern fun ρ w vs ha => ?_
  obtain ⟨a, b, rfl, hx, hy⟩ := two_args ha
  obtain ⟨bs, rfl, rfl⟩ := hx.inv_str
  obtain rfl := hy.inv_int
  refine ⟨.int .i64 (Go.Lib.indexByte bs.data.toList c), ?_, .int _ _⟩
  rw [extern_run Try.func127 (by kernel_rfl) (by kernel_rfl) (by kernel_rfl) (e := Extern.BytealgIndexByte.indexByte) (by kernel_rfl), Go.Lib.run_indexByteString]
  simp

theorem cmpstring_q (s t : List UInt8) (H : List AObj) : QuietF Go.Proofs.Try.prog 111 [.str s, .str t] H (.int .i64 (Go.Lib.compareBytes s t)) := by
  refine quiet_extern fun ρ w vs ha => ?_
  obtain ⟨a, b, rfl, hx, hy⟩ := two_args ha
  obtain ⟨bs, rfl, rfl⟩ := hx.inv_str
  obtain ⟨bt, rfl, rfl⟩ := hy.inv_str
  refine ⟨.int .i64 (Go.Lib.compareBytes bs.data.toList bt.data.toList), ?_, .int _ _⟩
  rw [extern_run Try.func111 (by kernel_rfl) (by kernel_rfl) (by kernel_rfl) (e := Extern.BytealgCompare.compare) (by kernel_rfl), Go.Lib.run_compareString]
  rfl

end Go.Proofs.Ytamoclnnakdiaaa.Abs
