/-
  Parts of a proof: see the row.
-/
import Derived.Test.YtljdcbcjdlpbgaaNP
import Derived.Test.YtljdcbcjdlpbgaaVcRow
set_option linter.unusedVariables false
set_option linter.unusedSimpArgs false
open Go Go.Vc Go.V2 Go.Proofs
namespace Go.Proofs.Ash
set_option maxRecDepth 100000
theorem tells_of {f : FuncId} {args : Array Value} {H : Heap} (h : HX Try.prog f [.bool] args E H fun b _ _ => b = true) : HC Try.prog f args H (Tells H) :=
  (h (WF.e H)).mono fun v H' ⟨vs, F', e, x, _, ha⟩ => by
    match vs, ha with
    | [.bool b], ha =>
      obtain rfl : b = true := ha
      exact ⟨e, ⟨x.size, fun k hk => x.out k hk fun h => h.elim⟩⟩
theorem nilS_walk {H : Heap} {cs : Array Value} (h : FlatOk (kindsOf Try.prog 20 23) cs.toList) : HC Try.prog 3 #[.agg cs] H (Tells H) := by
  have e : kindsOf Try.prog 20 23 = [.int .i64, .int .i64, .int .u8, .bool, .bool] := by kernel_rfl
  rw [e] at h
  obtain ⟨cs⟩ := cs
  obtain ⟨_, _, hc, ⟨kd, rfl, _⟩, h1⟩ := h.cons_of
  obtain ⟨_, _, rfl, ⟨n, rfl, _⟩, h2⟩ := h1.cons_of
  obtain ⟨_, _, rfl, ⟨a, rfl, _⟩, h3⟩ := h2.cons_of
  obtain ⟨_, _, rfl, ⟨kp, rfl⟩, h4⟩ := h3.cons_of
  obtain ⟨_, _, rfl, ⟨sh, rfl⟩, h5⟩ := h4.cons_of
  obtain rfl := h5.nil_of
  obtain rfl : cs = _ := hc
  exact tells_of (storeNil_spec kd n a kp sh)
end Go.Proofs.Ash
