/-
  Parts of a proof: see the row.
-/
import Derived.Test.YtljdcbcjdlpbgaaNums
set_option linter.unusedVariables false
set_option linter.unusedSimpArgs false
open Go Go.Vc Go.Proofs
namespace Go.Proofs.Ash
set_option maxRecDepth 100000 in
/-- bytes.Equal -/
theorem bytesEqual_vc (p : Option Addr) (n c : Nat) (q : Option Addr) (m mc : Nat) (H : Heap) (R : Value → Heap → Prop) (h :
 ∃ (bs1 : List UInt8),
 List.length bs1 = n ∧
 rowIs H p (List.map byteV bs1) ∧
 ∃ (bs2 : List UInt8), List.length bs2 = m ∧ rowIs H q (List.map byteV bs2) ∧ R (.bool (ByteArray.toList { data := List.toArray bs1 } == ByteArray.toList { data := List.toArray bs2 })) H) :
  HC Try.prog F.bytes_Equal #[.slice p n c, .slice q m mc] H R :=
  fn_sound {  } Try.func62 (c := bodyOf Try.f62) rfl rfl (cast (by kernel_rfl) h)
set_option maxRecDepth 100000 in
/-- bytes.HasPrefix -/
theorem hasPrefix_vc (p : Option Addr) (n c : Nat) (q : Option Addr) (m mc : Nat) (H : Heap) (R : Value → Heap → Prop) (h :
 br (decide ((↑n : Int) ≥ (↑m : Int)))
 (chk (0 ≤ (↑m : Int) ∧ (↑m : Int) ≤ (↑(bnd none c) : Int))
 (HC Try.prog F.bytes_Equal #[.slice (slAt p 0 (bnd none c) 1) (bnd (some (↑m : Int)) n - 0) (bnd none c - 0), .slice q m mc] H fun (v1 : Value) (H2 : Heap) =>
 ∃ (b3 : Bool), v1 = Value.bool b3 ∧ R (.bool b3) H2))
 (R (.bool false) H)) :
  HC Try.prog F.bytes_HasPrefix #[.slice p n c, .slice q m mc] H R :=
  fn_sound {  } Try.func68 (c := bodyOf Try.f68) rfl rfl (cast (by kernel_rfl) h)
end Go.Proofs.Ash
