/-
  Parts of a proof: see the row.
-/
import Derived.Test.YtbbiicpjhgjbmaaVcProg
import Derived.Test.YtbbiicpjhgjbmaaProg
open Go Go.Vc Go.Proofs
namespace Go.Proofs.Ytbbiicpjhgjbmaa
def bodyOf (f : Func) : Code := f.body.getD .skip
/-- files.New -/
theorem new_vc  (H : Heap) (R : Value → Heap → Prop) (h :
 newK
 (Obj.cells
 #[.int .i64 0, .int .i64 0, .bool false, .int .i64 0, .int .i64 0, .bool false, .int .i64 0, .int .i64 0,
 Value.bool false, .int .i64 0, .int .i64 0, .bool false, .int .i64 0, .int .i64 0, .bool false, .int .i64 0,
 .int .i64 0, .bool false, .int .i64 0, .int .i64 0, .bool false, .int .i64 0, .int .i64 0, .bool false]
 44)
 H fun (r1 : Nat) (H2 : Heap) => R (.pointer (some ⟨r1, 0, none⟩)) H2) :
  HC Try.prog 7 #[] H R :=
  fn_sound {  } Try.func7 (c := bodyOf Try.f7) rfl rfl (cast (by kernel_rfl) h)
/-- files.Files.find -/
theorem find_vc (b : Nat) (fd : Int) (H : Heap) (R : Value → Heap → Prop) (h :
 br (decide (fd < 0)) (R (.pointer none) H)
 (br (decide (fd ≥ 8)) (R (.pointer none) H)
 (chk (0 ≤ fd ∧ fd < 8)
 (ldBool ⟨b, 0 + Int.toNat fd * 3 + 2, none⟩ H fun (b1 : Bool) =>
  br (!b1) (R (.pointer none) H) (chk (0 ≤ fd ∧ fd < 8) (R (.pointer (some ⟨b, 0 + Int.toNat fd * 3, none⟩)) H)))))) :
  HC Try.prog 16 #[.pointer (some ⟨b, 0, none⟩), .int .i64 fd] H R :=
  fn_sound {  } Try.func16 (c := bodyOf Try.f16) rfl rfl (cast (by kernel_rfl) h)
/-- files.Files.find -/
theorem find0_vc (fd : Int) (H : Heap) (R : Value → Heap → Prop) (h :
 R (.pointer none) H) :
  HC Try.prog 16 #[.pointer none, .int .i64 fd] H R :=
  fn_sound {  } Try.func16 (c := bodyOf Try.f16) rfl rfl (cast (by kernel_rfl) h)
/-- files.Files.Open -/
theorem open__vc (b : Nat) (ino : Int) (H : Heap) (R : Value → Heap → Prop) (h :
 br (decide (ino < 1)) (R (.tuple #[.int .i64 0, .int .i64 1]) H)
 (br (decide (ino ≥ 48)) (R (.tuple #[.int .i64 0, .int .i64 1]) H)
 (∃ (I1 : Int → Heap → Prop),
 ∃ (μ2 : Int → Heap → Nat),
  I1 0 H ∧
  ∀ (_ : Nat → Value) (H4 : Heap) (n5 : Int),
  I1 n5 H4 →
  br (decide (n5 < 8))
   (chk (0 ≤ n5 ∧ n5 < 8)
   (ldBool ⟨b, 0 + Int.toNat n5 * 3 + 2, none⟩ H4 fun (b6 : Bool) =>
   br (!b6)
   (chk (0 ≤ n5 ∧ n5 < 8)
    (stV ⟨b, 0 + Int.toNat n5 * 3, none⟩ (.int .i64 ino) H4 fun (H7 : Heap) =>
    stV ⟨b, 0 + Int.toNat n5 * 3 + 1, none⟩ (.int .i64 0) H7 fun (H8 : Heap) =>
    stV ⟨b, 0 + Int.toNat n5 * 3 + 2, none⟩ (.bool true) H8 fun (H9 : Heap) => R (.tuple #[.int .i64 n5, .int .i64 0]) H9))
   (I1 (IntKind.wrap .i64 (n5 + 1)) H4 ∧ ltK (μ2 (IntKind.wrap .i64 (n5 + 1)) H4) (μ2 n5 H4))))
   (R (.tuple #[.int .i64 0, .int .i64 16]) H4)))) :
  HC Try.prog 8 #[.pointer (some ⟨b, 0, none⟩), .int .i64 ino] H R :=
  fn_sound { loop := fun | 0 => [(17, .int .i64)] | _ => [] } Try.func8 (c := bodyOf Try.f8) rfl rfl (cast (by kernel_rfl) h)
/-- files.Files.Open -/
theorem open0_vc (ino : Int) (H : Heap) (R : Value → Heap → Prop) (h :
 R (.tuple #[.int .i64 0, .int .i64 1]) H) :
  HC Try.prog 8 #[.pointer none, .int .i64 ino] H R :=
  fn_sound { loop := fun | 0 => [(17, .int .i64)] | _ => [] } Try.func8 (c := bodyOf Try.f8) rfl rfl (cast (by kernel_rfl) h)
/-- files.Files.Close -/
theorem close__vc (b : Nat) (fd : Int) (H : Heap) (R : Value → Heap → Prop) (h :
 HC Try.prog 16 #[.pointer (some ⟨b, 0, none⟩), .int .i64 fd] H fun (v1 : Value) (H2 : Heap) =>
 ∃ (p3 : Option Addr),
 v1 = Value.pointer p3 ∧
 br (Option.isNone p3) (R (.tuple #[.int .i64 0, .int .i64 15]) H2)
  (ptrK p3 fun (b4 o5 : Nat) =>
  ldInt .i64 ⟨b4, o5, none⟩ H2 fun (n6 : Int) =>
  ptrK p3 fun (b7 o8 : Nat) =>
  stV ⟨b7, o8, none⟩ (.int .i64 0) H2 fun (H9 : Heap) =>
   stV ⟨b7, o8 + 1, none⟩ (.int .i64 0) H9 fun (H10 : Heap) =>
   stV ⟨b7, o8 + 2, none⟩ (.bool false) H10 fun (H11 : Heap) => R (.tuple #[.int .i64 n6, .int .i64 0]) H11)) :
  HC Try.prog 9 #[.pointer (some ⟨b, 0, none⟩), .int .i64 fd] H R :=
  fn_sound {  } Try.func9 (c := bodyOf Try.f9) rfl rfl (cast (by kernel_rfl) h)
/-- files.Files.Close -/
theorem close0_vc (fd : Int) (H : Heap) (R : Value → Heap → Prop) (h :
 R (.tuple #[.int .i64 0, .int .i64 1]) H) :
  HC Try.prog 9 #[.pointer none, .int .i64 fd] H R :=
  fn_sound {  } Try.func9 (c := bodyOf Try.f9) rfl rfl (cast (by kernel_rfl) h)
/-- files.Files.Get -/
theorem get__vc (b : Nat) (fd : Int) (H : Heap) (R : Value → Heap → Prop) (h :
 HC Try.prog 16 #[.pointer (some ⟨b, 0, none⟩), .int .i64 fd] H fun (v1 : Value) (H2 : Heap) =>
 ∃ (p3 : Option Addr),
 v1 = Value.pointer p3 ∧
 br (Option.isNone p3) (R (.tuple #[.int .i64 0, .int .i64 0, .int .i64 15]) H2)
  (ptrK p3 fun (b4 o5 : Nat) =>
  ldInt .i64 ⟨b4, o5, none⟩ H2 fun (n6 : Int) =>
  ptrK p3 fun (b7 o8 : Nat) =>
  ldInt .i64 ⟨b7, o8 + 1, none⟩ H2 fun (n9 : Int) => R (.tuple #[.int .i64 n6, .int .i64 n9, .int .i64 0]) H2)) :
  HC Try.prog 14 #[.pointer (some ⟨b, 0, none⟩), .int .i64 fd] H R :=
  fn_sound {  } Try.func14 (c := bodyOf Try.f14) rfl rfl (cast (by kernel_rfl) h)
/-- files.Files.Get -/
theorem get0_vc (fd : Int) (H : Heap) (R : Value → Heap → Prop) (h :
 R (.tuple #[.int .i64 0, .int .i64 0, .int .i64 1]) H) :
  HC Try.prog 14 #[.pointer none, .int .i64 fd] H R :=
  fn_sound {  } Try.func14 (c := bodyOf Try.f14) rfl rfl (cast (by kernel_rfl) h)
/-- files.Files.Seek -/
theorem seek_vc (b : Nat) (fd n : Int) (H : Heap) (R : Value → Heap → Prop) (h :
 HC Try.prog 16 #[.pointer (some ⟨b, 0, none⟩), .int .i64 fd] H fun (v1 : Value) (H2 : Heap) =>
 ∃ (p3 : Option Addr),
 v1 = Value.pointer p3 ∧
 br (Option.isNone p3) (R (.int .i64 15) H2)
  (br (decide (n < 0)) (R (.int .i64 9) H2)
  (br (decide (n > 35328)) (R (.int .i64 9) H2)
  (ptrK p3 fun (b4 o5 : Nat) => stV ⟨b4, o5 + 1, none⟩ (.int .i64 n) H2 fun (H6 : Heap) => R (.int .i64 0) H6)))) :
  HC Try.prog 15 #[.pointer (some ⟨b, 0, none⟩), .int .i64 fd, .int .i64 n] H R :=
  fn_sound {  } Try.func15 (c := bodyOf Try.f15) rfl rfl (cast (by kernel_rfl) h)
/-- files.Files.Seek -/
theorem seek0_vc (fd n : Int) (H : Heap) (R : Value → Heap → Prop) (h :
 HC Try.prog 16 #[.pointer none, .int .i64 fd] H fun (v1 : Value) (H2 : Heap) => ∃ (p3 : Option Addr), v1 = Value.pointer p3 ∧ R (.int .i64 1) H2) :
  HC Try.prog 15 #[.pointer none, .int .i64 fd, .int .i64 n] H R :=
  fn_sound {  } Try.func15 (c := bodyOf Try.f15) rfl rfl (cast (by kernel_rfl) h)
/-- files.Files.Uses -/
theorem uses_vc (b : Nat) (ino : Int) (H : Heap) (R : Value → Heap → Prop) (h :
 HC Try.prog 17 #[.pointer (some ⟨b, 0, none⟩)] H fun (v1 : Value) (H2 : Heap) =>
 ∃ (n3 : Int),
 v1 = .int .i64 n3 ∧
 ∃ (I4 : Int → Int → Heap → Prop),
  ∃ (μ5 : Int → Int → Heap → Nat),
  I4 0 0 H2 ∧
  ∀ (_ : Nat → Value) (H7 : Heap) (n8 n9 : Int),
  I4 n8 n9 H7 →
   br (decide (n9 < n3))
   (HC Try.prog 16 #[.pointer (some ⟨b, 0, none⟩), .int .i64 n9] H7 fun (v10 : Value) (H11 : Heap) =>
   ∃ (p12 : Option Addr),
   v10 = Value.pointer p12 ∧
    br (!Option.isNone p12)
    (ptrK p12 fun (b13 o14 : Nat) =>
    ldInt .i64 ⟨b13, o14, none⟩ H11 fun (n15 : Int) =>
    br (n15 == ino)
     (I4 (IntKind.wrap .i64 (n8 + 1)) (IntKind.wrap .i64 (n9 + 1)) H11 ∧
     ltK (μ5 (IntKind.wrap .i64 (n8 + 1)) (IntKind.wrap .i64 (n9 + 1)) H11) (μ5 n8 n9 H7))
     (I4 n8 (IntKind.wrap .i64 (n9 + 1)) H11 ∧ ltK (μ5 n8 (IntKind.wrap .i64 (n9 + 1)) H11) (μ5 n8 n9 H7)))
    (I4 n8 (IntKind.wrap .i64 (n9 + 1)) H11 ∧ ltK (μ5 n8 (IntKind.wrap .i64 (n9 + 1)) H11) (μ5 n8 n9 H7)))
   (R (.int .i64 n8) H7)) :
  HC Try.prog 12 #[.pointer (some ⟨b, 0, none⟩), .int .i64 ino] H R :=
  fn_sound { loop := fun | 0 => [(5, .int .i64), (10, .int .i64)] | _ => [] } Try.func12 (c := bodyOf Try.f12) rfl rfl (cast (by kernel_rfl) h)
/-- files.Files.Uses -/
theorem uses0_vc (ino : Int) (H : Heap) (R : Value → Heap → Prop) (h :
 HC Try.prog 17 #[.pointer none] H fun (v1 : Value) (H2 : Heap) =>
 ∃ (n3 : Int),
 v1 = .int .i64 n3 ∧
 ∃ (I4 : Int → Int → Heap → Prop),
  ∃ (μ5 : Int → Int → Heap → Nat),
  I4 0 0 H2 ∧
  ∀ (_ : Nat → Value) (H7 : Heap) (n8 n9 : Int),
  I4 n8 n9 H7 →
   br (decide (n9 < n3))
   (HC Try.prog 16 #[.pointer none, .int .i64 n9] H7 fun (v10 : Value) (H11 : Heap) =>
   ∃ (p12 : Option Addr),
   v10 = Value.pointer p12 ∧
    br (!Option.isNone p12)
    (ptrK p12 fun (b13 o14 : Nat) =>
    ldInt .i64 ⟨b13, o14, none⟩ H11 fun (n15 : Int) =>
    br (n15 == ino)
     (I4 (IntKind.wrap .i64 (n8 + 1)) (IntKind.wrap .i64 (n9 + 1)) H11 ∧
     ltK (μ5 (IntKind.wrap .i64 (n8 + 1)) (IntKind.wrap .i64 (n9 + 1)) H11) (μ5 n8 n9 H7))
     (I4 n8 (IntKind.wrap .i64 (n9 + 1)) H11 ∧ ltK (μ5 n8 (IntKind.wrap .i64 (n9 + 1)) H11) (μ5 n8 n9 H7)))
    (I4 n8 (IntKind.wrap .i64 (n9 + 1)) H11 ∧ ltK (μ5 n8 (IntKind.wrap .i64 (n9 + 1)) H11) (μ5 n8 n9 H7)))
   (R (.int .i64 n8) H7)) :
  HC Try.prog 12 #[.pointer none, .int .i64 ino] H R :=
  fn_sound { loop := fun | 0 => [(5, .int .i64), (10, .int .i64)] | _ => [] } Try.func12 (c := bodyOf Try.f12) rfl rfl (cast (by kernel_rfl) h)
/-- files.Files.most -/
theorem most_vc (b : Nat) (H : Heap) (R : Value → Heap → Prop) (h :
 R (.int .i64 8) H) :
  HC Try.prog 17 #[.pointer (some ⟨b, 0, none⟩)] H R :=
  fn_sound {  } Try.func17 (c := bodyOf Try.f17) rfl rfl (cast (by kernel_rfl) h)
/-- files.Files.most -/
theorem most0_vc  (H : Heap) (R : Value → Heap → Prop) (h :
 R (.int .i64 0) H) :
  HC Try.prog 17 #[.pointer none] H R :=
  fn_sound {  } Try.func17 (c := bodyOf Try.f17) rfl rfl (cast (by kernel_rfl) h)
/-- files.Files.Len -/
theorem len__vc (b : Nat) (H : Heap) (R : Value → Heap → Prop) (h :
 HC Try.prog 17 #[.pointer (some ⟨b, 0, none⟩)] H fun (v1 : Value) (H2 : Heap) =>
 ∃ (n3 : Int),
 v1 = .int .i64 n3 ∧
 ∃ (I4 : Int → Int → Heap → Prop),
  ∃ (μ5 : Int → Int → Heap → Nat),
  I4 0 0 H2 ∧
  ∀ (_ : Nat → Value) (H7 : Heap) (n8 n9 : Int),
  I4 n8 n9 H7 →
   br (decide (n9 < n3))
   (HC Try.prog 16 #[.pointer (some ⟨b, 0, none⟩), .int .i64 n9] H7 fun (v10 : Value) (H11 : Heap) =>
   ∃ (p12 : Option Addr),
   v10 = Value.pointer p12 ∧
    br (!Option.isNone p12)
    (I4 (IntKind.wrap .i64 (n8 + 1)) (IntKind.wrap .i64 (n9 + 1)) H11 ∧
    ltK (μ5 (IntKind.wrap .i64 (n8 + 1)) (IntKind.wrap .i64 (n9 + 1)) H11) (μ5 n8 n9 H7))
    (I4 n8 (IntKind.wrap .i64 (n9 + 1)) H11 ∧ ltK (μ5 n8 (IntKind.wrap .i64 (n9 + 1)) H11) (μ5 n8 n9 H7)))
   (R (.int .i64 n8) H7)) :
  HC Try.prog 10 #[.pointer (some ⟨b, 0, none⟩)] H R :=
  fn_sound { loop := fun | 0 => [(3, .int .i64), (7, .int .i64)] | _ => [] } Try.func10 (c := bodyOf Try.f10) rfl rfl (cast (by kernel_rfl) h)
/-- files.Files.Len -/
theorem len0_vc  (H : Heap) (R : Value → Heap → Prop) (h :
 HC Try.prog 17 #[.pointer none] H fun (v1 : Value) (H2 : Heap) =>
 ∃ (n3 : Int),
 v1 = .int .i64 n3 ∧
 ∃ (I4 : Int → Int → Heap → Prop),
  ∃ (μ5 : Int → Int → Heap → Nat),
  I4 0 0 H2 ∧
  ∀ (_ : Nat → Value) (H7 : Heap) (n8 n9 : Int),
  I4 n8 n9 H7 →
   br (decide (n9 < n3))
   (HC Try.prog 16 #[.pointer none, .int .i64 n9] H7 fun (v10 : Value) (H11 : Heap) =>
   ∃ (p12 : Option Addr),
   v10 = Value.pointer p12 ∧
    br (!Option.isNone p12)
    (I4 (IntKind.wrap .i64 (n8 + 1)) (IntKind.wrap .i64 (n9 + 1)) H11 ∧
    ltK (μ5 (IntKind.wrap .i64 (n8 + 1)) (IntKind.wrap .i64 (n9 + 1)) H11) (μ5 n8 n9 H7))
    (I4 n8 (IntKind.wrap .i64 (n9 + 1)) H11 ∧ ltK (μ5 n8 (IntKind.wrap .i64 (n9 + 1)) H11) (μ5 n8 n9 H7)))
   (R (.int .i64 n8) H7)) :
  HC Try.prog 10 #[.pointer none] H R :=
  fn_sound { loop := fun | 0 => [(3, .int .i64), (7, .int .i64)] | _ => [] } Try.func10 (c := bodyOf Try.f10) rfl rfl (cast (by kernel_rfl) h)
/-- ashlarlaw22.awake -/
theorem awake_vc  (H : Heap) (R : Value → Heap → Prop) (h :
 HC Try.prog 7 #[] H fun (v1 : Value) (H2 : Heap) =>
 ∃ (p3 : Option Addr),
 v1 = Value.pointer p3 ∧
 HC Try.prog 8 #[.pointer p3, .int .i64 5] H2 fun (v4 : Value) (H5 : Heap) =>
  ∃ (n6 : Int),
  ∃ (n7 : Int),
  v4 = .tuple #[.int .i64 n6, .int .i64 n7] ∧
  br (!Option.isNone p3)
   (br (n6 == 0)
   (br (n7 == 0) (HC Try.prog 10 #[.pointer p3] H5 fun (v8 : Value) (H9 : Heap) => ∃ (n10 : Int), v8 = .int .i64 n10 ∧ R (.bool (n10 == 1)) H9)
   (R (.bool false) H5))
   (R (.bool false) H5))
   (R (.bool false) H5)) :
  HC Try.prog 6 #[] H R :=
  fn_sound {  } Try.func6 (c := bodyOf Try.f6) rfl rfl (cast (by kernel_rfl) h)
/-- ashlarlaw22.FilesNil -/
theorem lawNil_vc (k n a : Int) (H : Heap) (R : Value → Heap → Prop) (h :
 newK (Obj.cells #[.int .i64 k, .int .i64 n, .int .i64 a] 47) H fun (r1 : Nat) (H2 : Heap) =>
 HC Try.prog 6 #[] H2 fun (v3 : Value) (H4 : Heap) =>
 ∃ (b5 : Bool),
 v3 = Value.bool b5 ∧
  br (!b5) (R (.bool false) H4)
  (ldInt .i64 ⟨r1, 1, none⟩ H4 fun (n6 : Int) =>
  HC Try.prog 8 #[.pointer none, .int .i64 n6] H4 fun (v7 : Value) (H8 : Heap) =>
  ∃ (n9 : Int),
   ∃ (n10 : Int),
   v7 = .tuple #[.int .i64 n9, .int .i64 n10] ∧
   ldInt .i64 ⟨r1, 1, none⟩ H8 fun (n11 : Int) =>
   HC Try.prog 9 #[.pointer none, .int .i64 n11] H8 fun (v12 : Value) (H13 : Heap) =>
    ∃ (n14 : Int),
    ∃ (n15 : Int),
    v12 = .tuple #[.int .i64 n14, .int .i64 n15] ∧
    ldInt .i64 ⟨r1, 1, none⟩ H13 fun (n16 : Int) =>
     HC Try.prog 14 #[.pointer none, .int .i64 n16] H13 fun (v17 : Value) (H18 : Heap) =>
     ∃ (n19 : Int),
     ∃ (n20 : Int),
     ∃ (n21 : Int),
      v17 = .tuple #[.int .i64 n19, .int .i64 n20, .int .i64 n21] ∧
      br (n10 == 1)
      (br (n15 == 1)
      (br (n21 == 1)
       (ldInt .i64 ⟨r1, 1, none⟩ H18 fun (n22 : Int) =>
       ldInt .i64 ⟨r1, 2, none⟩ H18 fun (n23 : Int) =>
       HC Try.prog 15 #[.pointer none, .int .i64 n22, .int .i64 n23] H18 fun (v24 : Value) (H25 : Heap) =>
       ∃ (n26 : Int),
        v24 = .int .i64 n26 ∧
        br (n26 == 1)
        (ldInt .i64 ⟨r1, 1, none⟩ H25 fun (n27 : Int) =>
        HC Try.prog 12 #[.pointer none, .int .i64 n27] H25 fun (v28 : Value) (H29 : Heap) =>
         ∃ (n30 : Int),
         v28 = .int .i64 n30 ∧
         br (n30 == 0)
         (HC Try.prog 10 #[.pointer none] H29 fun (v31 : Value) (H32 : Heap) =>
          ∃ (n33 : Int), v31 = .int .i64 n33 ∧ R (.bool (n33 == 0)) H32)
         (R (.bool false) H29))
        (R (.bool false) H25))
       (R (.bool false) H18))
      (R (.bool false) H18))
      (R (.bool false) H18))) :
  HC Try.prog 5 #[.agg #[.int .i64 k, .int .i64 n, .int .i64 a]] H R :=
  fn_sound {  } Try.func5 (c := bodyOf Try.f5) rfl rfl (cast (by kernel_rfl) h)
/-- ashlarref23.FS.Uses -/
theorem wuses_vc (b : Nat) (ino : Int) (H : Heap) (R : Value → Heap → Prop) (h :
 ∃ (I1 : Int → Int → Heap → Prop),
 ∃ (μ2 : Int → Int → Heap → Nat),
 I1 0 0 H ∧
 ∀ (_ : Nat → Value) (H4 : Heap) (n5 n6 : Int),
  I1 n5 n6 H4 →
  br (decide (n6 < 8))
  (chk (0 ≤ n6 ∧ n6 < 8)
  (ldBool ⟨b, 0 + 1 + Int.toNat n6 * 3 + 2, none⟩ H4 fun (b7 : Bool) =>
   br b7
   (chk (0 ≤ n6 ∧ n6 < 8)
   (ldInt .i64 ⟨b, 0 + 1 + Int.toNat n6 * 3, none⟩ H4 fun (n8 : Int) =>
   br (n8 == ino)
    (I1 (IntKind.wrap .i64 (n5 + 1)) (IntKind.wrap .i64 (n6 + 1)) H4 ∧
    ltK (μ2 (IntKind.wrap .i64 (n5 + 1)) (IntKind.wrap .i64 (n6 + 1)) H4) (μ2 n5 n6 H4))
    (I1 n5 (IntKind.wrap .i64 (n6 + 1)) H4 ∧ ltK (μ2 n5 (IntKind.wrap .i64 (n6 + 1)) H4) (μ2 n5 n6 H4))))
   (I1 n5 (IntKind.wrap .i64 (n6 + 1)) H4 ∧ ltK (μ2 n5 (IntKind.wrap .i64 (n6 + 1)) H4) (μ2 n5 n6 H4))))
  (R (.int .i64 n5) H4)) :
  HC Try.prog 13 #[.pointer (some ⟨b, 0, none⟩), .int .i64 ino] H R :=
  fn_sound { loop := fun | 0 => [(5, .int .i64), (7, .int .i64)] | _ => [] } Try.func13 (c := bodyOf Try.f13) rfl rfl (cast (by kernel_rfl) h)
/-- ashlarlaw22.do -/
theorem do__vc (b c : Nat) (k n a : Int) (H : Heap) (R : Value → Heap → Prop) (h :
 newK (Obj.cells #[.int .i64 k, .int .i64 n, .int .i64 a] 47) H fun (r1 : Nat) (H2 : Heap) =>
 ∃ (J3 : Bool → Heap → Prop),
 (ldInt .i64 ⟨r1, 1, none⟩ H2 fun (n4 : Int) =>
  br (decide (n4 < 0)) (J3 true H2)
  (ldInt .i64 ⟨r1, 1, none⟩ H2 fun (n5 : Int) =>
  br (decide (n5 > 7)) (J3 true H2)
  (ldInt .i64 ⟨r1, 1, none⟩ H2 fun (n6 : Int) =>
   chk ((0 ≤ if 7 < if 0 > n6 then 0 else n6 then 7 else if 0 > n6 then 0 else n6) ∧ (if 7 < if 0 > n6 then 0 else n6 then 7 else if 0 > n6 then 0 else n6) < 8)
   (ldBool ⟨c, 0 + 1 + Int.toNat (if 7 < if 0 > n6 then 0 else n6 then 7 else if 0 > n6 then 0 else n6) * 3 + 2, none⟩ H2 fun (b7 : Bool) => J3 (!b7) H2)))) ∧
 ∀ (_ : Nat → Value) (H9 : Heap) (b10 : Bool),
  J3 b10 H9 →
  ldInt .i64 ⟨r1, 0, none⟩ H9 fun (n11 : Int) =>
  br (n11 == 1)
  (ldInt .i64 ⟨r1, 1, none⟩ H9 fun (n12 : Int) =>
   HC Try.prog 8 #[.pointer (some ⟨b, 0, none⟩), .int .i64 n12] H9 fun (v13 : Value) (H14 : Heap) =>
   ∃ (n15 : Int),
   ∃ (n16 : Int),
   v13 = .tuple #[.int .i64 n15, .int .i64 n16] ∧
    ldInt .i64 ⟨r1, 1, none⟩ H14 fun (n17 : Int) =>
    br (decide (n17 < 1)) (br (n15 == 0) (R (.bool (n16 == 1)) H14) (R (.bool false) H14))
    (ldInt .i64 ⟨r1, 1, none⟩ H14 fun (n18 : Int) =>
    br (decide (n18 > 47)) (br (n15 == 0) (R (.bool (n16 == 1)) H14) (R (.bool false) H14))
     (∃ (I19 : Int → Heap → Prop),
     ∃ (μ20 : Int → Heap → Nat),
     I19 0 H14 ∧
     ∀ (_ : Nat → Value) (H22 : Heap) (n23 : Int),
      I19 n23 H22 →
      br (decide (n23 < 8))
      (chk (0 ≤ n23 ∧ n23 < 8)
      (ldBool ⟨c, 0 + 1 + Int.toNat n23 * 3 + 2, none⟩ H22 fun (b24 : Bool) =>
       br (!b24)
       (ldInt .i64 ⟨r1, 1, none⟩ H22 fun (n25 : Int) =>
       chk (0 ≤ n23 ∧ n23 < 8)
       (stV ⟨c, 0 + 1 + Int.toNat n23 * 3, none⟩ (.int .i64 n25) H22 fun (H26 : Heap) =>
        stV ⟨c, 0 + 1 + Int.toNat n23 * 3 + 1, none⟩ (.int .i64 0) H26 fun (H27 : Heap) =>
        stV ⟨c, 0 + 1 + Int.toNat n23 * 3 + 2, none⟩ (.bool true) H27 fun (H28 : Heap) =>
        br (n15 == n23) (R (.bool (n16 == 0)) H28) (R (.bool false) H28)))
       (I19 (IntKind.wrap .i64 (n23 + 1)) H22 ∧ ltK (μ20 (IntKind.wrap .i64 (n23 + 1)) H22) (μ20 n23 H22))))
      (br (n15 == 0) (R (.bool (n16 == 16)) H22) (R (.bool false) H22)))))
  (br (n11 == 2)
   (ldInt .i64 ⟨r1, 1, none⟩ H9 fun (n29 : Int) =>
   HC Try.prog 9 #[.pointer (some ⟨b, 0, none⟩), .int .i64 n29] H9 fun (v30 : Value) (H31 : Heap) =>
   ∃ (n32 : Int),
   ∃ (n33 : Int),
    v30 = .tuple #[.int .i64 n32, .int .i64 n33] ∧
    br b10 (br (n32 == 0) (R (.bool (n33 == 15)) H31) (R (.bool false) H31))
    (ldInt .i64 ⟨r1, 1, none⟩ H31 fun (n34 : Int) =>
    chk (0 ≤ n34 ∧ n34 < 8)
     (ldInt .i64 ⟨c, 0 + 1 + Int.toNat n34 * 3, none⟩ H31 fun (n35 : Int) =>
     ldInt .i64 ⟨r1, 1, none⟩ H31 fun (n36 : Int) =>
     chk (0 ≤ n36 ∧ n36 < 8)
     (stV ⟨c, 0 + 1 + Int.toNat n36 * 3, none⟩ (.int .i64 0) H31 fun (H37 : Heap) =>
      stV ⟨c, 0 + 1 + Int.toNat n36 * 3 + 1, none⟩ (.int .i64 0) H37 fun (H38 : Heap) =>
      stV ⟨c, 0 + 1 + Int.toNat n36 * 3 + 2, none⟩ (.bool false) H38 fun (H39 : Heap) =>
      br (n32 == n35) (R (.bool (n33 == 0)) H39) (R (.bool false) H39)))))
   (br (n11 == 3)
   (ldInt .i64 ⟨r1, 1, none⟩ H9 fun (n40 : Int) =>
   ldInt .i64 ⟨r1, 2, none⟩ H9 fun (n41 : Int) =>
   HC Try.prog 15 #[.pointer (some ⟨b, 0, none⟩), .int .i64 n40, .int .i64 n41] H9 fun (v42 : Value) (H43 : Heap) =>
    ∃ (n44 : Int),
    v42 = .int .i64 n44 ∧
    br b10 (R (.bool (n44 == 15)) H43)
    (ldInt .i64 ⟨r1, 2, none⟩ H43 fun (n45 : Int) =>
     br (decide (n45 < 0)) (R (.bool (n44 == 9)) H43)
     (ldInt .i64 ⟨r1, 2, none⟩ H43 fun (n46 : Int) =>
     br (decide (n46 > 35328)) (R (.bool (n44 == 9)) H43)
     (ldInt .i64 ⟨r1, 1, none⟩ H43 fun (n47 : Int) =>
      ldInt .i64 ⟨r1, 2, none⟩ H43 fun (n48 : Int) =>
      chk (0 ≤ n47 ∧ n47 < 8)
      (stV ⟨c, 0 + 1 + Int.toNat n47 * 3 + 1, none⟩ (.int .i64 n48) H43 fun (H49 : Heap) => R (.bool (n44 == 0)) H49)))))
   (ldInt .i64 ⟨r1, 1, none⟩ H9 fun (n50 : Int) =>
   HC Try.prog 14 #[.pointer (some ⟨b, 0, none⟩), .int .i64 n50] H9 fun (v51 : Value) (H52 : Heap) =>
   ∃ (n53 : Int),
    ∃ (n54 : Int),
    ∃ (n55 : Int),
    v51 = .tuple #[.int .i64 n53, .int .i64 n54, .int .i64 n55] ∧
    br b10 (br (n53 == 0) (br (n54 == 0) (R (.bool (n55 == 15)) H52) (R (.bool false) H52)) (R (.bool false) H52))
     (ldInt .i64 ⟨r1, 1, none⟩ H52 fun (n56 : Int) =>
     chk (0 ≤ n56 ∧ n56 < 8)
     (ldInt .i64 ⟨c, 0 + 1 + Int.toNat n56 * 3, none⟩ H52 fun (n57 : Int) =>
     br (n53 == n57)
      (ldInt .i64 ⟨r1, 1, none⟩ H52 fun (n58 : Int) =>
      chk (0 ≤ n58 ∧ n58 < 8)
      (ldInt .i64 ⟨c, 0 + 1 + Int.toNat n58 * 3 + 1, none⟩ H52 fun (n59 : Int) =>
      br (n54 == n59) (R (.bool (n55 == 0)) H52) (R (.bool false) H52)))
      (R (.bool false) H52))))))) :
  HC Try.prog 11 #[.pointer (some ⟨b, 0, none⟩), .pointer (some ⟨c, 0, none⟩), .agg #[.int .i64 k, .int .i64 n, .int .i64 a]] H R :=
  fn_sound { loop := fun | 1 => [(64, .int .i64)] | _ => [], cut := fun | 2 => some [(7, .bool)] | _ => none } Try.func11 (c := bodyOf Try.f11) rfl rfl (cast (by kernel_rfl) h)
/-- ashlarlaw22.FilesPlay -/
theorem lawPlay_vc (p : Option Addr) (n c : Nat) (z : Bool) (H : Heap) (R : Value → Heap → Prop) (h :
 HC Try.prog 6 #[] H fun (v1 : Value) (H2 : Heap) =>
 ∃ (b3 : Bool),
 v1 = Value.bool b3 ∧
 br (!b3) (HC Try.prog 6 #[] H2 fun (v4 : Value) (H5 : Heap) => ∃ (b6 : Bool), v4 = Value.bool b6 ∧ R (.bool b6) H5)
  (br (decide ((↑n : Int) > 200)) (HC Try.prog 6 #[] H2 fun (v7 : Value) (H8 : Heap) => ∃ (b9 : Bool), v7 = Value.bool b9 ∧ R (.bool b9) H8)
  (HC Try.prog 7 #[] H2 fun (v10 : Value) (H11 : Heap) =>
  ∃ (p12 : Option Addr),
  v10 = Value.pointer p12 ∧
   newK
   (Obj.cells
   #[.pointer none, .int .i64 0, .int .i64 0, .bool false, .int .i64 0, .int .i64 0, .bool false,
   .int .i64 0, .int .i64 0, .bool false, .int .i64 0, .int .i64 0, .bool false, .int .i64 0,
   .int .i64 0, .bool false, .int .i64 0, .int .i64 0, .bool false, .int .i64 0, .int .i64 0, .bool false,
   .int .i64 0, .int .i64 0, .bool false]
   39)
   H11 fun (r13 : Nat) (H14 : Heap) =>
   ∃ (J15 : Option Addr → Heap → Prop),
   br z
    (newK
    (Obj.cells
    #[.int .i64 0, .int .i64 0, .bool false, .int .i64 0, .int .i64 0, .bool false, .int .i64 0,
    .int .i64 0, .bool false, .int .i64 0, .int .i64 0, .bool false, .int .i64 0, .int .i64 0,
    Value.bool false, .int .i64 0, .int .i64 0, .bool false, .int .i64 0, .int .i64 0, .bool false,
    .int .i64 0, .int .i64 0, .bool false]
    44)
    H14 fun (r16 : Nat) (H17 : Heap) => J15 (some ⟨r16, 0, none⟩) H17)
    (J15 p12 H14) ∧
   ∀ (_ : Nat → Value) (H19 : Heap) (p20 : Option Addr),
    J15 p20 H19 →
    ∃ (I21 : Int → Heap → Prop),
    ∃ (μ22 : Int → Heap → Nat),
    I21 0 H19 ∧
     ∀ (_ : Nat → Value) (H24 : Heap) (n25 : Int),
     I21 n25 H24 →
     br (decide (n25 < (↑n : Int)))
     (chk (0 ≤ n25 ∧ n25 < (↑n : Int))
      (ptrK p fun (b26 o27 : Nat) =>
      ldInt .i64 ⟨b26, o27 + Int.toNat n25 * 3, none⟩ H24 fun (n28 : Int) =>
      ldInt .i64 ⟨b26, o27 + Int.toNat n25 * 3 + 1, none⟩ H24 fun (n29 : Int) =>
      ldInt .i64 ⟨b26, o27 + Int.toNat n25 * 3 + 2, none⟩ H24 fun (n30 : Int) =>
       HC Try.prog 11
       #[.pointer p20, .pointer (some ⟨r13, 0, none⟩),
       Value.agg #[.int .i64 n28, .int .i64 n29, .int .i64 n30]]
       H24 fun (v31 : Value) (H32 : Heap) =>
       ∃ (b33 : Bool),
       v31 = Value.bool b33 ∧
       br (!b33) (R (.bool false) H32)
        (chk (0 ≤ n25 ∧ n25 < (↑n : Int))
        (ptrK p fun (b34 o35 : Nat) =>
        ldInt .i64 ⟨b34, o35 + Int.toNat n25 * 3 + 1, none⟩ H32 fun (n36 : Int) =>
        callQ Try.prog 12 #[.pointer p20, .int .i64 n36] H32 fun (v37 : Value) =>
         ∃ (n38 : Int),
         v37 = .int .i64 n38 ∧
         chk (0 ≤ n25 ∧ n25 < (↑n : Int))
         (ptrK p fun (b39 o40 : Nat) =>
          ldInt .i64 ⟨b39, o40 + Int.toNat n25 * 3 + 1, none⟩ H32 fun (n41 : Int) =>
          callQ Try.prog 13 #[.pointer (some ⟨r13, 0, none⟩), .int .i64 n41] H32 fun (v42 : Value) =>
          ∃ (n43 : Int),
          v42 = .int .i64 n43 ∧
           br (n38 != n43) (R (.bool false) H32)
           (∃ (I44 : Int → Int → Heap → Prop),
           ∃ (μ45 : Int → Int → Heap → Nat),
           I44 0 0 H32 ∧
            ∀ (_ : Nat → Value) (H47 : Heap) (n48 n49 : Int),
            I44 n48 n49 H47 →
            br (decide (n49 < 8))
            (chk (0 ≤ n49 ∧ n49 < 8)
             (ldBool ⟨r13, 0 + 1 + Int.toNat n49 * 3 + 2, none⟩ H47 fun (b50 : Bool) =>
             br b50
             (I44 (IntKind.wrap .i64 (n48 + 1)) (IntKind.wrap .i64 (n49 + 1)) H47 ∧
             ltK (μ45 (IntKind.wrap .i64 (n48 + 1)) (IntKind.wrap .i64 (n49 + 1)) H47)
              (μ45 n48 n49 H47))
             (I44 n48 (IntKind.wrap .i64 (n49 + 1)) H47 ∧
             ltK (μ45 n48 (IntKind.wrap .i64 (n49 + 1)) H47) (μ45 n48 n49 H47))))
            (HC Try.prog 10 #[.pointer p20] H47 fun (v51 : Value) (H52 : Heap) =>
             ∃ (n53 : Int),
             v51 = .int .i64 n53 ∧
             br (n53 != n48) (R (.bool false) H52)
             (I21 (IntKind.wrap .i64 (n25 + 1)) H52 ∧
              ltK (μ22 (IntKind.wrap .i64 (n25 + 1)) H52) (μ22 n25 H24)))))))))
     (R (.bool true) H24)))) :
  HC Try.prog 4 #[.slice p n c, .bool z] H R :=
  fn_sound { loop := fun | 0 => [(26, .int .i64)] | 2 => [(8, .int .i64), (54, .int .i64)] | _ => [], cut := fun | 6 => some [(5, .ptr)] | _ => none, loud := fun | 9 => [6] | _ => [] } Try.func4 (c := bodyOf Try.f4) rfl rfl (cast (by kernel_rfl) h)
/-- ashlarlaw22.FilesLeast -/
theorem lawLeast_vc (p : Option Addr) (n c : Nat) (q : Option Addr) (m d : Nat) (H : Heap) (R : Value → Heap → Prop) (h :
 HC Try.prog 6 #[] H fun (v1 : Value) (H2 : Heap) =>
 ∃ (b3 : Bool),
 v1 = Value.bool b3 ∧
 br (!b3) (HC Try.prog 6 #[] H2 fun (v4 : Value) (H5 : Heap) => ∃ (b6 : Bool), v4 = Value.bool b6 ∧ R (.bool b6) H5)
  (br (decide ((↑n : Int) > 100)) (HC Try.prog 6 #[] H2 fun (v7 : Value) (H8 : Heap) => ∃ (b9 : Bool), v7 = Value.bool b9 ∧ R (.bool b9) H8)
  (br (decide ((↑m : Int) > 100)) (HC Try.prog 6 #[] H2 fun (v10 : Value) (H11 : Heap) => ∃ (b12 : Bool), v10 = Value.bool b12 ∧ R (.bool b12) H11)
  (HC Try.prog 7 #[] H2 fun (v13 : Value) (H14 : Heap) =>
  ∃ (p15 : Option Addr),
   v13 = Value.pointer p15 ∧
   newK (Obj.cells #[.bool false, .bool false, .bool false, .bool false, .bool false, .bool false, .bool false, .bool false] 26) H14
   fun (r16 : Nat) (H17 : Heap) =>
   ∃ (I18 : Int → Heap → Prop),
   ∃ (μ19 : Int → Heap → Nat),
    I18 0 H17 ∧
    ∀ (_ : Nat → Value) (H21 : Heap) (n22 : Int),
    I18 n22 H21 →
    br (decide (n22 < (↑m : Int)))
     (∃ (J23 : Int → Heap → Prop),
     (∃ (I24 : Int → Heap → Prop),
     ∃ (μ25 : Int → Heap → Nat),
      I24 0 H21 ∧
      ∀ (_ : Nat → Value) (H27 : Heap) (n28 : Int),
      I24 n28 H27 →
      br (decide (n28 < 8))
       (chk (0 ≤ n28 ∧ n28 < 8)
       (ldBool ⟨r16, 0 + Int.toNat n28 * 1, none⟩ H27 fun (b29 : Bool) =>
       br b29 (I24 (IntKind.wrap .i64 (n28 + 1)) H27 ∧ ltK (μ25 (IntKind.wrap .i64 (n28 + 1)) H27) (μ25 n28 H27)) (J23 n28 H27)))
       (J23 n28 H27)) ∧
     ∀ (_ : Nat → Value) (H31 : Heap) (n32 : Int),
     J23 n32 H31 →
      chk (0 ≤ n22 ∧ n22 < (↑m : Int))
      (ptrK q fun (b33 o34 : Nat) =>
      ldInt .u8 ⟨b33, o34 + Int.toNat n22 * 1, none⟩ H31 fun (n35 : Int) =>
      HC Try.prog 8 #[.pointer p15, .int .i64 (IntKind.wrap .i64 (1 + IntKind.wrap .i64 (Int.tmod n35 47)))] H31
       fun (v36 : Value) (H37 : Heap) =>
       ∃ (n38 : Int),
       ∃ (n39 : Int),
       v36 = .tuple #[.int .i64 n38, .int .i64 n39] ∧
       ∃ (J40 : Heap → Prop),
        br (n32 == 8) (br (n39 != 16) (R (.bool false) H37) (J40 H37))
        (br (n39 != 0) (R (.bool false) H37)
        (br (n38 != n32) (R (.bool false) H37)
         (chk (0 ≤ n38 ∧ n38 < 8) (stV ⟨r16, 0 + Int.toNat n38 * 1, none⟩ (.bool true) H37 fun (H41 : Heap) => J40 H41)))) ∧
        ∀ (_ : Nat → Value) (H43 : Heap),
        J40 H43 →
        br (decide (n22 < (↑n : Int)))
         (chk (0 ≤ n22 ∧ n22 < (↑n : Int))
         (ptrK p fun (b44 o45 : Nat) =>
         ldInt .u8 ⟨b44, o45 + Int.toNat n22 * 1, none⟩ H43 fun (n46 : Int) =>
         HC Try.prog 9 #[.pointer p15, .int .i64 (IntKind.wrap .i64 (Int.tmod n46 8))] H43
          fun (v47 : Value) (H48 : Heap) =>
          ∃ (n49 : Int),
          ∃ (n50 : Int),
          v47 = .tuple #[.int .i64 n49, .int .i64 n50] ∧
          chk (0 ≤ IntKind.wrap .i64 (Int.tmod n46 8) ∧ IntKind.wrap .i64 (Int.tmod n46 8) < 8)
           (ldBool ⟨r16, 0 + Int.toNat (IntKind.wrap .i64 (Int.tmod n46 8)) * 1, none⟩ H48 fun (b51 : Bool) =>
           br (!(n50 == 0) == b51) (R (.bool false) H48)
           (chk (0 ≤ IntKind.wrap .i64 (Int.tmod n46 8) ∧ IntKind.wrap .i64 (Int.tmod n46 8) < 8)
           (stV ⟨r16, 0 + Int.toNat (IntKind.wrap .i64 (Int.tmod n46 8)) * 1, none⟩ (.bool false) H48
            fun (H52 : Heap) =>
            I18 (IntKind.wrap .i64 (n22 + 1)) H52 ∧
            ltK (μ19 (IntKind.wrap .i64 (n22 + 1)) H52) (μ19 n22 H21))))))
         (I18 (IntKind.wrap .i64 (n22 + 1)) H43 ∧ ltK (μ19 (IntKind.wrap .i64 (n22 + 1)) H43) (μ19 n22 H21))))
     (∃ (I53 : Int → Int → Heap → Prop),
     ∃ (μ54 : Int → Int → Heap → Nat),
     I53 0 0 H21 ∧
     ∀ (_ : Nat → Value) (H56 : Heap) (n57 n58 : Int),
      I53 n57 n58 H56 →
      br (decide (n58 < 8))
      (chk (0 ≤ n58 ∧ n58 < 8)
      (ldBool ⟨r16, 0 + Int.toNat n58 * 1, none⟩ H56 fun (b59 : Bool) =>
       br b59
       (I53 (IntKind.wrap .i64 (n57 + 1)) (IntKind.wrap .i64 (n58 + 1)) H56 ∧
       ltK (μ54 (IntKind.wrap .i64 (n57 + 1)) (IntKind.wrap .i64 (n58 + 1)) H56) (μ54 n57 n58 H56))
       (I53 n57 (IntKind.wrap .i64 (n58 + 1)) H56 ∧ ltK (μ54 n57 (IntKind.wrap .i64 (n58 + 1)) H56) (μ54 n57 n58 H56))))
      (HC Try.prog 10 #[.pointer p15] H56 fun (v60 : Value) (H61 : Heap) =>
      ∃ (n62 : Int), v60 = .int .i64 n62 ∧ R (.bool (n62 == n57)) H61)))))) :
  HC Try.prog 3 #[.slice p n c, .slice q m d] H R :=
  fn_sound { loop := fun | 0 => [(32, .int .i64)] | 2 => [(8, .int .i64)] | 4 => [(14, .int .i64), (94, .int .i64)] | _ => [], cut := fun | 11 => some [(8, .int .i64)] | 18 => some [] | _ => none } Try.func3 (c := bodyOf Try.f3) rfl rfl (cast (by kernel_rfl) h)
end Go.Proofs.Ytbbiicpjhgjbmaa
