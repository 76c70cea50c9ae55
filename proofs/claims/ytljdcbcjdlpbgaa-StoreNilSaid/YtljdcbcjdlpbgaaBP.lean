/-
  Parts of a proof: see the row.
-/
import Derived.Test.YtljdcbcjdlpbgaaAP
import Derived.Test.YtljdcbcjdlpbgaaBV
set_option linter.unusedVariables false
set_option linter.unusedSimpArgs false
open Go Go.Vc Go.Proofs
namespace Go.Proofs.Ash
set_option maxRecDepth 100000

theorem list_of (xs : Bytes) : ByteArray.toList { data := List.toArray xs } = xs := by rw [ByteArray.toList_eq]
theorem bytesEqual_spec {N M : Fp} {p q : Option Addr} {n c m mc : Nat} {xs ys : Bytes} {H : Heap} (h : Bs N H p n c xs) (k : Bs M H q m mc ys) :
    HC Try.prog F.bytes_Equal #[.slice p n c, .slice q m mc] H fun v H' => H = H' ∧ v = .bool (xs == ys) :=
  bytesEqual_vc p n c q m mc H _ ⟨xs, h.len, h.row.is, ys, k.len, k.row.is, rfl, by rw [list_of, list_of]⟩
theorem hasPrefix_spec {N M : Fp} {p q : Option Addr} {n c m mc : Nat} {xs ys : Bytes} {H : Heap} (h : Bs N H p n c xs) (k : Bs M H q m mc ys) :
    HC Try.prog F.bytes_HasPrefix #[.slice p n c, .slice q m mc] H fun v H' => H = H' ∧ v = .bool (decide (m ≤ n) && xs.take m == ys) := by
  have hc := h.cap
  refine hasPrefix_vc p n c q m mc H _ (br_dec (fun h1 => ⟨⟨by omega, by simp only [bnd]; omega⟩, (bytesEqual_spec (h.part (lo := 0) (hi := m) (by omega) (by omega)) k).mono ?_⟩) fun h1 => ⟨rfl, ?_⟩)
  · rintro _ _ ⟨rfl, rfl⟩
    exact ⟨_, rfl, rfl, by rw [decide_eq_true (by omega : m ≤ n), Bool.true_and, List.drop_zero]⟩
  · rw [decide_eq_false (by omega : ¬ m ≤ n), Bool.false_and]

end Go.Proofs.Ash
