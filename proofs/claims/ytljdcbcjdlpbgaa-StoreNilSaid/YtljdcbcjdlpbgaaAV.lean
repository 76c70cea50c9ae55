/-
  Parts of a proof: see the row.
-/
import Derived.Test.YtljdcbcjdlpbgaaNums
set_option linter.unusedVariables false
set_option linter.unusedSimpArgs false
open Go Go.Vc Go.Proofs
namespace Go.Proofs.Ash
set_option maxRecDepth 100000 in
/-- slices.Clone[[]byte,byte] -/
theorem clone_vc (p : Option Addr) (n c : Nat) (H : Heap) (R : Value → Heap → Prop) (h :
 br (Option.isNone p) (R (.slice none 0 0) H)
 (newK (Obj.cells #[] 5) H fun (r1 : Nat) (H2 : Heap) =>
 appV Try.prog #[29, 29] 29 #[.slice (some ⟨r1, 0, none⟩) 0 0, .slice p n c] H2 fun (v3 : Value) (H4 : Heap) =>
 ∃ (p5 : Option Addr), ∃ (n6 : Nat), ∃ (c7 : Nat), v3 = Value.slice p5 n6 c7 ∧ R (.slice p5 n6 c7) H4)) :
  HC Try.prog F.slices_Clone_Sbyte_byte #[.slice p n c] H R :=
  fn_sound {  } Try.func26 (c := bodyOf Try.f26) rfl rfl (cast (by kernel_rfl) h)
set_option maxRecDepth 100000 in
/-- slices.Grow[[]byte,byte] -/
theorem grow_vc (p : Option Addr) (n c : Nat) (m : Int) (H : Heap) (R : Value → Heap → Prop) (h :
 br (decide (m < 0)) False
 (br (decide (IntKind.wrap .i64 (m - IntKind.wrap .i64 ((↑c : Int) - (↑n : Int))) > 0))
 (chk (0 ≤ (↑c : Int) ∧ (↑c : Int) ≤ (↑(bnd none c) : Int))
 (appV Try.prog #[29, 3] 29
  #[.slice (slAt p 0 (bnd none c) 1) (bnd (some (↑c : Int)) n - 0) (bnd none c - 0),
  .int .i64 (IntKind.wrap .i64 (m - IntKind.wrap .i64 ((↑c : Int) - (↑n : Int))))]
  H fun (v1 : Value) (H2 : Heap) =>
  ∃ (p3 : Option Addr),
  ∃ (n4 : Nat),
  ∃ (c5 : Nat),
  v1 = Value.slice p3 n4 c5 ∧ chk (0 ≤ (↑n : Int) ∧ (↑n : Int) ≤ (↑(bnd none c5) : Int)) (R (.slice (slAt p3 0 (bnd none c5) 1) (bnd (some (↑n : Int)) n4 - 0) (bnd none c5 - 0)) H2)))
 (R (.slice p n c) H))) :
  HC Try.prog F.slices_Grow_Sbyte_byte #[.slice p n c, .int .i64 m] H R :=
  fn_sound {  } Try.func100 (c := bodyOf Try.f100) rfl rfl (cast (by kernel_rfl) h)
set_option maxRecDepth 100000 in
/-- slices.Concat[[]byte,byte] -/
theorem concat_vc (p : Option Addr) (n c : Nat) (H : Heap) (R : Value → Heap → Prop) (h :
 ∃ (I1 : Int → Int → Heap → Prop),
 ∃ (μ2 : Int → Int → Heap → Nat),
 I1 0 0 H ∧
 ∀ (_ : Nat → Value) (H4 : Heap) (n5 n6 : Int),
  I1 n5 n6 H4 →
  br (decide (n6 < (↑n : Int)))
  (chk (0 ≤ n6 ∧ n6 < (↑n : Int))
  (ptrK p fun (b7 o8 : Nat) =>
   ldSl ⟨b7, o8 + Int.toNat n6 * 1, none⟩ H4 fun (p9 : Option Addr) (n10 c11 : Nat) =>
   br (decide (IntKind.wrap .i64 (n5 + (↑n10 : Int)) < 0)) False
   (I1 (IntKind.wrap .i64 (n5 + (↑n10 : Int))) (IntKind.wrap .i64 (n6 + 1)) H4 ∧
   ltK (μ2 (IntKind.wrap .i64 (n5 + (↑n10 : Int))) (IntKind.wrap .i64 (n6 + 1)) H4) (μ2 n5 n6 H4))))
  (HC Try.prog F.slices_Grow_Sbyte_byte #[.slice none 0 0, .int .i64 n5] H4 fun (v12 : Value) (H13 : Heap) =>
  ∃ (p14 : Option Addr),
   ∃ (n15 : Nat),
   ∃ (c16 : Nat),
   v12 = Value.slice p14 n15 c16 ∧
   ∃ (I17 : Option Addr → Nat → Nat → Int → Heap → Prop),
    ∃ (μ18 : Option Addr → Nat → Nat → Int → Heap → Nat),
    I17 p14 n15 c16 0 H13 ∧
    ∀ (_ : Nat → Value) (H20 : Heap) (p21 : Option Addr) (n22 c23 : Nat) (n24 : Int),
    I17 p21 n22 c23 n24 H20 →
     br (decide (n24 < (↑n : Int)))
     (chk (0 ≤ n24 ∧ n24 < (↑n : Int))
     (ptrK p fun (b25 o26 : Nat) =>
     ldSl ⟨b25, o26 + Int.toNat n24 * 1, none⟩ H20 fun (p27 : Option Addr) (n28 c29 : Nat) =>
      appV Try.prog #[29, 29] 29 #[.slice p21 n22 c23, .slice p27 n28 c29] H20 fun (v30 : Value) (H31 : Heap) =>
      ∃ (p32 : Option Addr),
      ∃ (n33 : Nat),
      ∃ (c34 : Nat),
       v30 = Value.slice p32 n33 c34 ∧
       I17 p32 n33 c34 (IntKind.wrap .i64 (n24 + 1)) H31 ∧ ltK (μ18 p32 n33 c34 (IntKind.wrap .i64 (n24 + 1)) H31) (μ18 p21 n22 c23 n24 H20)))
     (R (.slice p21 n22 c23) H20))) :
  HC Try.prog F.slices_Concat_Sbyte_byte #[.slice p n c] H R :=
  fn_sound { loop := fun | 0 => [(3, .int .i64), (11, .int .i64)] | 2 => [(6, .sl), (27, .int .i64)] | _ => [] } Try.func92 (c := bodyOf Try.f92) rfl rfl (cast (by kernel_rfl) h)
set_option maxRecDepth 100000 in
/-- pack.Put -/
theorem packPut_vc (p : Option Addr) (n c : Nat) (x k : Int) (H : Heap) (R : Value → Heap → Prop) (h :
 br (decide (k < 1)) (HC Try.prog F.slices_Clone_Sbyte_byte #[.slice p n c] H fun (v1 : Value) (H2 : Heap) => ∃ (p3 : Option Addr), ∃ (n4 : Nat), ∃ (c5 : Nat), v1 = Value.slice p3 n4 c5 ∧ R (.slice p3 n4 c5) H2)
 (br (decide (k > 8))
 (HC Try.prog F.slices_Clone_Sbyte_byte #[.slice p n c] H fun (v6 : Value) (H7 : Heap) => ∃ (p8 : Option Addr), ∃ (n9 : Nat), ∃ (c10 : Nat), v6 = Value.slice p8 n9 c10 ∧ R (.slice p8 n9 c10) H7)
 (msV Try.prog 29 (.int .i64 k) (.int .i64 k) H fun (v11 : Value) (H12 : Heap) =>
 ∃ (p13 : Option Addr),
  ∃ (n14 : Nat),
  ∃ (c15 : Nat),
  v11 = Value.slice p13 n14 c15 ∧
  newK (Obj.cells #[.slice p n c, .slice p13 n14 c15] 29) H12 fun (r16 : Nat) (H17 : Heap) =>
   HC Try.prog F.slices_Concat_Sbyte_byte #[.slice (some ⟨r16, 0, none⟩) 2 2] H17 fun (v18 : Value) (H19 : Heap) =>
   ∃ (p20 : Option Addr),
   ∃ (n21 : Nat),
   ∃ (c22 : Nat),
    v18 = Value.slice p20 n21 c22 ∧
    ∃ (I23 : Int → Heap → Prop),
    ∃ (μ24 : Int → Heap → Nat),
    I23 0 H19 ∧
     ∀ (_ : Nat → Value) (H26 : Heap) (n27 : Int),
     I23 n27 H26 →
     br (decide (n27 < k))
     (chk (0 ≤ IntKind.wrap .u64 (IntKind.wrap .i64 (8 * n27)))
      (chk (0 ≤ IntKind.wrap .i64 ((↑n : Int) + n27) ∧ IntKind.wrap .i64 ((↑n : Int) + n27) < (↑n21 : Int))
      (ptrK p20 fun (b28 o29 : Nat) =>
      stV ⟨b28, o29 + Int.toNat (IntKind.wrap .i64 ((↑n : Int) + n27)) * 1, none⟩
      (.int .u8 (IntKind.wrap .u8 (Int.fdiv x (2 ^ min (Int.toNat (IntKind.wrap .u64 (IntKind.wrap .i64 (8 * n27)))) 64)))) H26
      fun (H30 : Heap) => I23 (IntKind.wrap .i64 (n27 + 1)) H30 ∧ ltK (μ24 (IntKind.wrap .i64 (n27 + 1)) H30) (μ24 n27 H26))))
     (R (.slice p20 n21 c22) H26)))) :
  HC Try.prog F.pack_Put #[.slice p n c, .int .u64 x, .int .i64 k] H R :=
  fn_sound { loop := fun | 0 => [(23, .int .i64)] | _ => [] } Try.func76 (c := bodyOf Try.f76) rfl rfl (cast (by kernel_rfl) h)
set_option maxRecDepth 100000 in
/-- pack.Get -/
theorem packGet_vc (p : Option Addr) (n c : Nat) (a k : Int) (H : Heap) (R : Value → Heap → Prop) (h :
 br (decide (k < 1)) (R (.tuple #[.int .u64 0, .bool false]) H)
 (br (decide (k > 8)) (R (.tuple #[.int .u64 0, .bool false]) H)
 (br (decide (a < 0)) (R (.tuple #[.int .u64 0, .bool false]) H)
 (br (decide (a > (↑n : Int))) (R (.tuple #[.int .u64 0, .bool false]) H)
  (br (decide (k > IntKind.wrap .i64 ((↑n : Int) - a))) (R (.tuple #[.int .u64 0, .bool false]) H)
  (∃ (I1 : Int → Int → Heap → Prop),
  ∃ (μ2 : Int → Int → Heap → Nat),
  I1 0 (IntKind.wrap .i64 (k - 1)) H ∧
   ∀ (_ : Nat → Value) (H4 : Heap) (n5 n6 : Int),
   I1 n5 n6 H4 →
   br (decide (n6 ≥ 0))
   (chk ((0 : Int) ≤ 8)
    (chk (0 ≤ IntKind.wrap .i64 (a + n6) ∧ IntKind.wrap .i64 (a + n6) < (↑n : Int))
    (ptrK p fun (b7 o8 : Nat) =>
    ldInt .u8 ⟨b7, o8 + Int.toNat (IntKind.wrap .i64 (a + n6)) * 1, none⟩ H4 fun (n9 : Int) =>
    I1 (IntKind.wrap .u64 (↑(BitVec.toNat (BitVec.ofInt 64 (IntKind.wrap .u64 (n5 * 256)) ||| BitVec.ofInt 64 (IntKind.wrap .u64 n9))) : Int))
     (IntKind.wrap .i64 (n6 - 1)) H4 ∧
     ltK
     (μ2 (IntKind.wrap .u64 (↑(BitVec.toNat (BitVec.ofInt 64 (IntKind.wrap .u64 (n5 * 256)) ||| BitVec.ofInt 64 (IntKind.wrap .u64 n9))) : Int))
     (IntKind.wrap .i64 (n6 - 1)) H4)
     (μ2 n5 n6 H4))))
   (R (.tuple #[.int .u64 n5, .bool true]) H4))))))) :
  HC Try.prog F.pack_Get #[.slice p n c, .int .i64 a, .int .i64 k] H R :=
  fn_sound { loop := fun | 0 => [(6, .int .u64), (8, .int .i64)] | _ => [] } Try.func69 (c := bodyOf Try.f69) rfl rfl (cast (by kernel_rfl) h)
set_option maxRecDepth 100000 in
/-- pack.Sum -/
theorem packSum_vc (p : Option Addr) (n c : Nat) (H : Heap) (R : Value → Heap → Prop) (h :
 ∃ (I1 : Int → Int → Heap → Prop),
 ∃ (μ2 : Int → Int → Heap → Nat),
 I1 2166136261 0 H ∧
 ∀ (_ : Nat → Value) (H4 : Heap) (n5 n6 : Int),
  I1 n5 n6 H4 →
  br (decide (n6 < (↑n : Int)))
  (chk (0 ≤ n6 ∧ n6 < (↑n : Int))
  (ptrK p fun (b7 o8 : Nat) =>
   ldInt .u8 ⟨b7, o8 + Int.toNat n6 * 1, none⟩ H4 fun (n9 : Int) =>
   I1 (IntKind.wrap .u32 (IntKind.wrap .u32 (↑(BitVec.toNat (BitVec.ofInt 32 n5 ^^^ BitVec.ofInt 32 (IntKind.wrap .u32 n9))) : Int) * 16777619))
   (IntKind.wrap .i64 (n6 + 1)) H4 ∧
   ltK
   (μ2 (IntKind.wrap .u32 (IntKind.wrap .u32 (↑(BitVec.toNat (BitVec.ofInt 32 n5 ^^^ BitVec.ofInt 32 (IntKind.wrap .u32 n9))) : Int) * 16777619))
    (IntKind.wrap .i64 (n6 + 1)) H4)
   (μ2 n5 n6 H4)))
  (R (.int .u32 n5) H4)) :
  HC Try.prog F.pack_Sum #[.slice p n c] H R :=
  fn_sound { loop := fun | 0 => [(3, .int .u32), (8, .int .i64)] | _ => [] } Try.func80 (c := bodyOf Try.f80) rfl rfl (cast (by kernel_rfl) h)
set_option maxRecDepth 100000 in
/-- pack.Seal -/
theorem packSeal_vc (p : Option Addr) (n c : Nat) (H : Heap) (R : Value → Heap → Prop) (h :
 br (decide ((↑n : Int) > 252)) (R (.tuple #[.slice none 0 0, .int .i64 1]) H)
 (msV Try.prog 29 (.int .i64 (IntKind.wrap .i64 (252 - (↑n : Int)))) (.int .i64 (IntKind.wrap .i64 (252 - (↑n : Int)))) H fun (v1 : Value) (H2 : Heap) =>
 ∃ (p3 : Option Addr),
 ∃ (n4 : Nat),
  ∃ (c5 : Nat),
  v1 = Value.slice p3 n4 c5 ∧
  newK (Obj.cells #[.slice p n c, .slice p3 n4 c5] 29) H2 fun (r6 : Nat) (H7 : Heap) =>
  HC Try.prog F.slices_Concat_Sbyte_byte #[.slice (some ⟨r6, 0, none⟩) 2 2] H7 fun (v8 : Value) (H9 : Heap) =>
   ∃ (p10 : Option Addr),
   ∃ (n11 : Nat),
   ∃ (c12 : Nat),
   v8 = Value.slice p10 n11 c12 ∧
    HC Try.prog F.pack_Sum #[.slice p10 n11 c12] H9 fun (v13 : Value) (H14 : Heap) =>
    ∃ (n15 : Int),
    v13 = .int .u32 n15 ∧
    HC Try.prog F.pack_Put #[.slice p10 n11 c12, .int .u64 (IntKind.wrap .u64 n15), .int .i64 4] H14 fun (v16 : Value) (H17 : Heap) =>
     ∃ (p18 : Option Addr), ∃ (n19 : Nat), ∃ (c20 : Nat), v16 = Value.slice p18 n19 c20 ∧ R (.tuple #[.slice p18 n19 c20, .int .i64 0]) H17)) :
  HC Try.prog F.pack_Seal #[.slice p n c] H R :=
  fn_sound {  } Try.func75 (c := bodyOf Try.f75) rfl rfl (cast (by kernel_rfl) h)
set_option maxRecDepth 100000 in
/-- pack.Open -/
theorem packOpen_vc (p : Option Addr) (n c : Nat) (H : Heap) (R : Value → Heap → Prop) (h :
 br ((↑n : Int) != 256) (R (.tuple #[.slice none 0 0, .bool false]) H)
 (HC Try.prog F.pack_Get #[.slice p n c, .int .i64 252, .int .i64 4] H fun (v1 : Value) (H2 : Heap) =>
 ∃ (n3 : Int),
 ∃ (b4 : Bool),
  v1 = .tuple #[.int .u64 n3, .bool b4] ∧
  chk ((0 : Int) ≤ 252 ∧ 252 ≤ (↑(bnd none c) : Int))
  (HC Try.prog F.pack_Sum #[.slice (slAt p 0 (bnd none c) 1) 252 (bnd none c - 0)] H2 fun (v5 : Value) (H6 : Heap) =>
  ∃ (n7 : Int),
   v5 = .int .u32 n7 ∧
   br (IntKind.wrap .u32 n3 != n7) (R (.tuple #[.slice none 0 0, .bool false]) H6)
   (chk ((0 : Int) ≤ 252 ∧ 252 ≤ (↑(bnd none c) : Int))
   (HC Try.prog F.slices_Clone_Sbyte_byte #[.slice (slAt p 0 (bnd none c) 1) 252 (bnd none c - 0)] H6 fun (v8 : Value) (H9 : Heap) =>
    ∃ (p10 : Option Addr), ∃ (n11 : Nat), ∃ (c12 : Nat), v8 = Value.slice p10 n11 c12 ∧ R (.tuple #[.slice p10 n11 c12, .bool true]) H9))))) :
  HC Try.prog F.pack_Open #[.slice p n c] H R :=
  fn_sound {  } Try.func67 (c := bodyOf Try.f67) rfl rfl (cast (by kernel_rfl) h)
end Go.Proofs.Ash
