/-
  Parts of a proof: see the row.
-/
import Derived.Test.YtljdcbcjdlpbgaaNums2
set_option linter.unusedVariables false
set_option linter.unusedSimpArgs false
open Go Go.Vc Go.V2 Go.Proofs
namespace Go.Proofs.Ash
set_option maxRecDepth 100000 in
/-- log.ready -/
theorem logReady_vc (d : Option Addr) (G : FF) (H : Heap) (R : FX [.bool]) (h :
 HX Try.prog F.disk_Disk_Blocks [.int .i64] #[.pointer d] G H fun (n1 : Int) (G2 : FF) (H3 : Heap) => R (decide (n1 ≥ 64)) G2 H3) :
  HX Try.prog F.log_ready [.bool] #[.pointer d] G H R :=
  fnX_sound {  } Try.func51 (c := bodyOf Try.f51) rfl rfl (cast (by kernel_rfl) h)
set_option maxRecDepth 100000 in
/-- log.fits -/
theorem logFits_vc (d : Option Addr) (t : Value) (G : FF) (H : Heap) (R : FX [.bool]) (h :
 newK (Obj.cells #[.pointer d] 40) H fun (r1 : Nat) (H2 : Heap) =>
 stepX G H H2 fun (G3 : FF) =>
 agA t 3 fun (cs4 : Array Value) =>
 ∀ (G5 : FF) (H6 : Heap),
  Sto G3 H2 G5 H6 →
  HX Try.prog F.txn_Formed [.bool] #[.agg cs4] G5 H6 fun (b7 : Bool) (G8 : FF) (H9 : Heap) =>
  br b7
  (bxSl cs4 1 fun (p10 : Option Addr) (n11 c12 : Nat) =>
   HX Try.prog F.slices_ContainsFunc_Sint_int [.bool] #[.slice p10 n11 c12, .func (Fn.func F.log_fits_1) #[] #[.pointer (some ⟨r1, 0, none⟩)]] G8 H9 fun (b13 : Bool) (G14 : FF) (H15 : Heap) =>
   R (!b13) G14 H15)
  (R false G8 H9)) :
  HX Try.prog F.log_fits [.bool] #[.pointer d, t] G H R :=
  fnX_sound { bx := [(3, 3), (8, 3)], bs := [(3, 3)], sy := [3] } Try.func53 (c := bodyOf Try.f53) rfl rfl (cast (by kernel_rfl) h)
set_option maxRecDepth 100000 in
/-- log.lay -/
theorem logLay_vc (d : Option Addr) (k : Int) (p : Option Addr) (n c : Nat) (G : FF) (H : Heap) (R : FX [.int .i64]) (h :
 ∃ (I1 : Nat → Int → FF → Heap → Prop),
 (∃ (m2 : Nat), I1 m2 0 G H) ∧
 ∀ (_ : Nat → Value) (G4 : FF) (H5 : Heap),
 Im G H G4 H5 →
  ∀ (n6 : Int) (m7 : Nat),
  I1 m7 n6 G4 H5 →
  br (decide (n6 < (↑n : Int)))
  (chk (0 ≤ n6 ∧ n6 < (↑n : Int))
   (ptrK p fun (b8 o9 : Nat) =>
   ldSl ⟨b8, o9 + Int.toNat n6 * 1, none⟩ H5 fun (p10 : Option Addr) (n11 c12 : Nat) =>
   HX Try.prog F.disk_Disk_Write [.int .i64] #[.pointer d, .int .i64 (IntKind.wrap .i64 (k + n6)), .slice p10 n11 c12] G4 H5
   fun (n13 : Int) (G14 : FF) (H15 : Heap) => br (n13 != 0) (R n13 G14 H15) (∃ (m'16 : Nat), ltK m'16 m7 ∧ I1 m'16 (IntKind.wrap .i64 (n6 + 1)) G14 H15)))
  (HX Try.prog F.disk_Disk_Flush [.int .i64] #[.pointer d] G4 H5 fun (n17 : Int) (G18 : FF) (H19 : Heap) => R n17 G18 H19)) :
  HX Try.prog F.log_lay [.int .i64] #[.pointer d, .int .i64 k, .slice p n c] G H R :=
  fnX_sound { loop := fun | 0 => [(12, .int .i64)] | _ => [] } Try.func60 (c := bodyOf Try.f60) rfl rfl (cast (by kernel_rfl) h)
set_option maxRecDepth 100000 in
/-- log.Write -/
theorem logWrite_vc (d : Option Addr) (t : Value) (G : FF) (H : Heap) (R : FX [.int .i64]) (h :
 agA t 3 fun (cs1 : Array Value) =>
 ∀ (G2 : FF) (H3 : Heap),
 Sto G H G2 H3 →
 HX Try.prog F.log_ready [.bool] #[.pointer d] G2 H3 fun (b4 : Bool) (G5 : FF) (H6 : Heap) =>
  br (!b4) (R 1 G5 H6)
  (HX Try.prog F.log_fits [.bool] #[.pointer d, .agg cs1] G5 H6 fun (b7 : Bool) (G8 : FF) (H9 : Heap) =>
  br (!b7) (R 1 G8 H9)
  (HX Try.prog F.disk_Disk_Flush [.int .i64] #[.pointer d] G8 H9 fun (n10 : Int) (G11 : FF) (H12 : Heap) =>
   br (n10 != 0) (R n10 G11 H12)
   (msV Try.prog 29 (.int .i64 256) (.int .i64 256) H12 fun (v13 : Value) (H14 : Heap) =>
   ∃ (p15 : Option Addr),
   ∃ (n16 : Nat),
    ∃ (c17 : Nat),
    v13 = Value.slice p15 n16 c17 ∧
    stepX G11 H12 H14 fun (G18 : FF) =>
    newK (Obj.cells #[.slice p15 n16 c17] 29) H14 fun (r19 : Nat) (H20 : Heap) =>
     stepX G18 H14 H20 fun (G21 : FF) =>
     HX Try.prog F.log_lay [.int .i64] #[.pointer d, .int .i64 42, .slice (some ⟨r19, 0, none⟩) 1 1] G21 H20
     fun (n22 : Int) (G23 : FF) (H24 : Heap) =>
     br (n22 != 0) (R n22 G23 H24)
     (HX Try.prog F.txn_Pack [.sl, .int .i64] #[.agg cs1] G23 H24 fun (p25 : Option Addr) (n26 c27 : Nat) (n28 : Int) (G29 : FF) (H30 : Heap) =>
      chk (0 ≤ IntKind.wrap .i64 ((↑n26 : Int) - 1) ∧ IntKind.wrap .i64 ((↑n26 : Int) - 1) ≤ (↑(bnd none c27) : Int))
      (HX Try.prog F.log_lay [.int .i64]
      #[.pointer d, .int .i64 3,
      Value.slice (slAt p25 0 (bnd none c27) 1) (bnd (some (IntKind.wrap .i64 ((↑n26 : Int) - 1))) n26 - 0) (bnd none c27 - 0)]
      G29 H30 fun (n31 : Int) (G32 : FF) (H33 : Heap) =>
      br (n31 != 0) (R n31 G32 H33)
      (chk (0 ≤ IntKind.wrap .i64 ((↑n26 : Int) - 1) ∧ IntKind.wrap .i64 ((↑n26 : Int) - 1) < (↑n26 : Int))
       (ptrK p25 fun (b34 o35 : Nat) =>
       ldSl ⟨b34, o35 + Int.toNat (IntKind.wrap .i64 ((↑n26 : Int) - 1)) * 1, none⟩ H33 fun (p36 : Option Addr) (n37 c38 : Nat) =>
       newK (Obj.cells #[.slice p36 n37 c38] 29) H33 fun (r39 : Nat) (H40 : Heap) =>
       stepX G32 H33 H40 fun (G41 : FF) =>
        HX Try.prog F.log_lay [.int .i64] #[.pointer d, .int .i64 42, .slice (some ⟨r39, 0, none⟩) 1 1] G41 H40
        fun (n42 : Int) (G43 : FF) (H44 : Heap) => R n42 G43 H44)))))))) :
  HX Try.prog F.log_Write [.int .i64] #[.pointer d, t] G H R :=
  fnX_sound { bx := [(3, 3)], bs := [(3, 3)], sy := [3] } Try.func49 (c := bodyOf Try.f49) rfl rfl (cast (by kernel_rfl) h)
set_option maxRecDepth 100000 in
/-- log.Home -/
theorem logHome_vc (d : Option Addr) (t : Value) (G : FF) (H : Heap) (R : FX [.int .i64]) (h :
 agA t 3 fun (cs1 : Array Value) =>
 ∀ (G2 : FF) (H3 : Heap),
 Sto G H G2 H3 →
 HX Try.prog F.log_ready [.bool] #[.pointer d] G2 H3 fun (b4 : Bool) (G5 : FF) (H6 : Heap) =>
  br (!b4) (R 1 G5 H6)
  (HX Try.prog F.log_fits [.bool] #[.pointer d, .agg cs1] G5 H6 fun (b7 : Bool) (G8 : FF) (H9 : Heap) =>
  br (!b7) (R 1 G8 H9)
  (bxSl cs1 1 fun (p10 : Option Addr) (n11 c12 : Nat) =>
   ∃ (I13 : Nat → Int → FF → Heap → Prop),
   (∃ (m14 : Nat), I13 m14 0 G8 H9) ∧
   ∀ (_ : Nat → Value) (G16 : FF) (H17 : Heap),
   Im G8 H9 G16 H17 →
    ∀ (n18 : Int) (m19 : Nat),
    I13 m19 n18 G16 H17 →
    br (decide (n18 < (↑n11 : Int)))
    (chk (0 ≤ n18 ∧ n18 < (↑n11 : Int))
     (ptrK p10 fun (b20 o21 : Nat) =>
     ldInt .i64 ⟨b20, o21 + Int.toNat n18 * 1, none⟩ H17 fun (n22 : Int) =>
     bxSl cs1 2 fun (p23 : Option Addr) (n24 c25 : Nat) =>
     chk (0 ≤ n18 ∧ n18 < (↑n24 : Int))
      (ptrK p23 fun (b26 o27 : Nat) =>
      ldSl ⟨b26, o27 + Int.toNat n18 * 1, none⟩ H17 fun (p28 : Option Addr) (n29 c30 : Nat) =>
      HX Try.prog F.disk_Disk_Write [.int .i64] #[.pointer d, .int .i64 n22, .slice p28 n29 c30] G16 H17
      fun (n31 : Int) (G32 : FF) (H33 : Heap) =>
      br (n31 != 0) (R n31 G32 H33) (∃ (m'34 : Nat), ltK m'34 m19 ∧ I13 m'34 (IntKind.wrap .i64 (n18 + 1)) G32 H33))))
    (R 0 G16 H17)))) :
  HX Try.prog F.log_Home [.int .i64] #[.pointer d, t] G H R :=
  fnX_sound { bx := [(3, 3), (17, 3), (27, 3)], bs := [(3, 3)], sy := [3], loop := fun | 0 => [(20, .int .i64)] | _ => [] } Try.func42 (c := bodyOf Try.f42) rfl rfl (cast (by kernel_rfl) h)
set_option maxRecDepth 100000 in
/-- log.blocks -/
theorem logBlocks_vc (d : Option Addr) (G : FF) (H : Heap) (R : FX [.sl, .int .i64]) (h :
 HX Try.prog F.log_ready [.bool] #[.pointer d] G H fun (b1 : Bool) (G2 : FF) (H3 : Heap) =>
 br (!b1) (R none 0 0 1 G2 H3)
 (∃ (I4 : Nat → Option Addr → Nat → Nat → Int → FF → Heap → Prop),
 (∃ (m5 : Nat), I4 m5 none 0 0 0 G2 H3) ∧
  ∀ (_ : Nat → Value) (G7 : FF) (H8 : Heap),
  Im G2 H3 G7 H8 →
  ∀ (p9 : Option Addr) (n10 c11 : Nat) (n12 : Int) (m13 : Nat),
  I4 m13 p9 n10 c11 n12 G7 H8 →
   br (decide (n12 < 40))
   (HX Try.prog F.disk_Disk_Read [.sl, .int .i64] #[.pointer d, .int .i64 (IntKind.wrap .i64 (3 + n12))] G7 H8
   fun (p14 : Option Addr) (n15 c16 : Nat) (n17 : Int) (G18 : FF) (H19 : Heap) =>
   br (n17 != 0) (R none 0 0 n17 G18 H19)
   (newK (Obj.cells #[.slice p14 n15 c16] 29) H19 fun (r20 : Nat) (H21 : Heap) =>
    stepX G18 H19 H21 fun (G22 : FF) =>
    appV Try.prog #[45, 45] 45 #[.slice p9 n10 c11, .slice (some ⟨r20, 0, none⟩) 1 1] H21 fun (v23 : Value) (H24 : Heap) =>
    ∃ (p25 : Option Addr),
    ∃ (n26 : Nat),
     ∃ (c27 : Nat),
     v23 = Value.slice p25 n26 c27 ∧ stepX G22 H21 H24 fun (G28 : FF) => ∃ (m'29 : Nat), ltK m'29 m13 ∧ I4 m'29 p25 n26 c27 (IntKind.wrap .i64 (n12 + 1)) G28 H24))
   (R p9 n10 c11 0 G7 H8))) :
  HX Try.prog F.log_blocks [.sl, .int .i64] #[.pointer d] G H R :=
  fnX_sound { loop := fun | 0 => [(4, .sl), (11, .int .i64)] | _ => [] } Try.func40 (c := bodyOf Try.f40) rfl rfl (cast (by kernel_rfl) h)
set_option maxRecDepth 100000 in
/-- log.Read -/
theorem logRead_vc (d : Option Addr) (G : FF) (H : Heap) (R : FX [.any, .bool, .int .i64]) (h :
 ∀ (G1 : FF) (H2 : Heap),
 Sto G H G1 H2 →
 HX Try.prog F.log_blocks [.sl, .int .i64] #[.pointer d] G1 H2 fun (p3 : Option Addr) (n4 c5 : Nat) (n6 : Int) (G7 : FF) (H8 : Heap) =>
 br (n6 != 0)
  (agA (.agg #[.int .u32 0, .slice none 0 0, .slice none 0 0]) 3 fun (cs9 : Array Value) =>
  ∀ (G10 : FF) (H11 : Heap), Sto G7 H8 G10 H11 → R (.agg cs9) false n6 G10 H11)
  (HX Try.prog F.txn_Unpack [.any, .bool] #[.slice p3 n4 c5] G7 H8 fun (v12 : Value) (b13 : Bool) (G14 : FF) (H15 : Heap) =>
  agA v12 3 fun (cs16 : Array Value) =>
  br (!b13)
  (agA (.agg #[.int .u32 0, .slice none 0 0, .slice none 0 0]) 3 fun (cs17 : Array Value) =>
   ∀ (G18 : FF) (H19 : Heap), Sto G14 H15 G18 H19 → R (.agg cs17) false 0 G18 H19)
  (∀ (G20 : FF) (H21 : Heap),
   Sto G14 H15 G20 H21 →
   HX Try.prog F.log_fits [.bool] #[.pointer d, .agg cs16] G20 H21 fun (b22 : Bool) (G23 : FF) (H24 : Heap) =>
   br (!b22)
   (agA (.agg #[.int .u32 0, .slice none 0 0, .slice none 0 0]) 3 fun (cs25 : Array Value) =>
    ∀ (G26 : FF) (H27 : Heap), Sto G23 H24 G26 H27 → R (.agg cs25) false 0 G26 H27)
   (agA (.agg cs16) 3 fun (cs28 : Array Value) => ∀ (G29 : FF) (H30 : Heap), Sto G23 H24 G29 H30 → R (.agg cs28) true 0 G29 H30)))) :
  HX Try.prog F.log_Read [.any, .bool, .int .i64] #[.pointer d] G H R :=
  fnX_sound { bx := [(2, 2), (7, 7)], bs := [(2, 3), (7, 3)], sy := [2, 7] } Try.func41 (c := bodyOf Try.f41) rfl rfl (cast (by kernel_rfl) h)
set_option maxRecDepth 100000 in
/-- log.Recover -/
theorem logRecover_vc (d : Option Addr) (G : FF) (H : Heap) (R : FX [.int .u32, .int .i64]) (h :
 HX Try.prog F.log_blocks [.sl, .int .i64] #[.pointer d] G H fun (p1 : Option Addr) (n2 c3 : Nat) (n4 : Int) (G5 : FF) (H6 : Heap) =>
 br (n4 != 0) (R 0 n4 G5 H6)
 (HX Try.prog F.log_Read [.any, .bool, .int .i64] #[.pointer d] G5 H6 fun (v7 : Value) (b8 : Bool) (n9 : Int) (G10 : FF) (H11 : Heap) =>
 agA v7 3 fun (cs12 : Array Value) =>
  br b8
  (∀ (G13 : FF) (H14 : Heap),
  Sto G10 H11 G13 H14 →
  HX Try.prog F.log_Home [.int .i64] #[.pointer d, .agg cs12] G13 H14 fun (n15 : Int) (G16 : FF) (H17 : Heap) =>
   br (n15 != 0) (R 0 n15 G16 H17)
   (HX Try.prog F.disk_Disk_Flush [.int .i64] #[.pointer d] G16 H17 fun (n18 : Int) (G19 : FF) (H20 : Heap) =>
   br (n18 != 0) (R 0 n18 G19 H20)
   (HX Try.prog F.txn_Seq [.int .u32, .bool] #[.slice p1 n2 c3] G19 H20 fun (n21 : Int) (b22 : Bool) (G23 : FF) (H24 : Heap) =>
    R (IntKind.wrap .u32 (n21 + 1)) 0 G23 H24)))
  (∀ (G25 : FF) (H26 : Heap),
  Sto G10 H11 G25 H26 →
  HX Try.prog F.txn_Seq [.int .u32, .bool] #[.slice p1 n2 c3] G25 H26 fun (n27 : Int) (b28 : Bool) (G29 : FF) (H30 : Heap) =>
   R (IntKind.wrap .u32 (n27 + 1)) 0 G29 H30))) :
  HX Try.prog F.log_Recover [.int .u32, .int .i64] #[.pointer d] G H R :=
  fnX_sound { bx := [(6, 6)], bs := [(6, 3)], sy := [6] } Try.func24 (c := bodyOf Try.f24) rfl rfl (cast (by kernel_rfl) h)
set_option maxRecDepth 100000 in
/-- txn.numbered -/
theorem txnNumbered_vc (p : Option Addr) (n c : Nat) (G : FF) (H : Heap) (R : FX [.bool]) (h :
 newK (Obj.map #[] 0) H fun (r1 : Nat) (H2 : Heap) =>
 stepX G H H2 fun (G3 : FF) =>
 ∃ (I4 : Nat → Int → FF → Heap → Prop),
 (∃ (m5 : Nat), I4 m5 0 G3 H2) ∧
  ∀ (_ : Nat → Value) (G7 : FF) (H8 : Heap),
  Im G3 H2 G7 H8 →
  ∀ (n9 : Int) (m10 : Nat),
  I4 m10 n9 G7 H8 →
   br (decide (n9 < (↑n : Int)))
   (chk (0 ≤ n9 ∧ n9 < (↑n : Int))
   (ptrK p fun (b11 o12 : Nat) =>
   ldInt .i64 ⟨b11, o12 + Int.toNat n9 * 1, none⟩ H8 fun (n13 : Int) =>
    br (decide (n13 < 0)) (R false G7 H8)
    (br (decide (n13 ≥ 768)) (R false G7 H8)
    (mapK (.map (some r1)) H8 fun (es14 : Array MapEntry) =>
    keysI .i64 (Array.toList es14) ∧
     (∀ (v15 : Value),
     mget n13 (Array.toList es14) = some v15 →
     ∃ (b16 : Bool),
      v15 = Value.bool b16 ∧
      br b16 (R false G7 H8)
      (muV Try.prog 47 (.map (some r1)) (.int .i64 n13) (.bool true) H8 fun (H17 : Heap) =>
      stepX G7 H8 H17 fun (G18 : FF) => ∃ (m'19 : Nat), ltK m'19 m10 ∧ I4 m'19 (IntKind.wrap .i64 (n9 + 1)) G18 H17)) ∧
     (mget n13 (Array.toList es14) = none →
     muV Try.prog 47 (.map (some r1)) (.int .i64 n13) (.bool true) H8 fun (H20 : Heap) =>
     stepX G7 H8 H20 fun (G21 : FF) => ∃ (m'22 : Nat), ltK m'22 m10 ∧ I4 m'22 (IntKind.wrap .i64 (n9 + 1)) G21 H20)))))
   (R (decide ((↑n : Int) ≤ 37)) G7 H8)) :
  HX Try.prog F.txn_numbered [.bool] #[.slice p n c] G H R :=
  fnX_sound { loop := fun | 0 => [(9, .int .i64)] | _ => [] } Try.func70 (c := bodyOf Try.f70) rfl rfl (cast (by kernel_rfl) h)
set_option maxRecDepth 100000 in
/-- txn.Formed -/
theorem txnFormed_vc (t : Value) (G : FF) (H : Heap) (R : FX [.bool]) (h :
 agA t 3 fun (cs1 : Array Value) =>
 bxSl cs1 1 fun (p2 : Option Addr) (n3 c4 : Nat) =>
 ∀ (G5 : FF) (H6 : Heap),
 Sto G H G5 H6 →
  HX Try.prog F.txn_numbered [.bool] #[.slice p2 n3 c4] G5 H6 fun (b7 : Bool) (G8 : FF) (H9 : Heap) =>
  br b7
  (bxSl cs1 2 fun (p10 : Option Addr) (n11 c12 : Nat) =>
  bxSl cs1 1 fun (p13 : Option Addr) (n14 c15 : Nat) =>
   br ((↑n11 : Int) == (↑n14 : Int))
   (bxSl cs1 2 fun (p16 : Option Addr) (n17 c18 : Nat) =>
   HX Try.prog F.slices_ContainsFunc_SSbyte_Sbyte [.bool] #[.slice p16 n17 c18, .func (Fn.func F.txn_Formed_1) #[] #[]] G8 H9 fun (b19 : Bool) (G20 : FF) (H21 : Heap) => R (!b19) G20 H21)
   (R false G8 H9))
  (R false G8 H9)) :
  HX Try.prog F.txn_Formed [.bool] #[t] G H R :=
  fnX_sound { bx := [(1, 1), (3, 1), (7, 1), (10, 1), (16, 1)], bs := [(1, 3)], sy := [1] } Try.func64 (c := bodyOf Try.f64) rfl rfl (cast (by kernel_rfl) h)
set_option maxRecDepth 100000 in
/-- txn.head -/
theorem txnHead_vc (q : Int) (p : Option Addr) (n c : Nat) (G : FF) (H : Heap) (R : FX [.sl]) (h :
 newK (Obj.cells #[.int .u8 106, .int .u8 114, .int .u8 110, .int .u8 108] 5) H fun (r1 : Nat) (H2 : Heap) =>
 stepX G H H2 fun (G3 : FF) =>
 cvV Try.prog 29 29 (.slice (some ⟨r1, 0, none⟩) 4 4) H2 fun (v4 : Value) (H5 : Heap) =>
 ∃ (p6 : Option Addr),
  ∃ (n7 : Nat),
  ∃ (c8 : Nat),
  v4 = Value.slice p6 n7 c8 ∧
  stepX G3 H2 H5 fun (G9 : FF) =>
   HX Try.prog F.pack_Put [.sl] #[.slice p6 n7 c8, .int .u64 (IntKind.wrap .u64 q), .int .i64 4] G9 H5
   fun (p10 : Option Addr) (n11 c12 : Nat) (G13 : FF) (H14 : Heap) =>
   HX Try.prog F.pack_Put [.sl] #[.slice p10 n11 c12, .int .u64 (IntKind.wrap .u64 (↑n : Int)), .int .i64 2] G13 H14
   fun (p15 : Option Addr) (n16 c17 : Nat) (G18 : FF) (H19 : Heap) =>
   ∃ (I20 : Nat → Option Addr → Nat → Nat → Int → FF → Heap → Prop),
   (∃ (m21 : Nat), I20 m21 p15 n16 c17 0 G18 H19) ∧
    ∀ (_ : Nat → Value) (G23 : FF) (H24 : Heap),
    Im G18 H19 G23 H24 →
    ∀ (p25 : Option Addr) (n26 c27 : Nat) (n28 : Int) (m29 : Nat),
    I20 m29 p25 n26 c27 n28 G23 H24 →
     br (decide (n28 < (↑n : Int)))
     (chk (0 ≤ n28 ∧ n28 < (↑n : Int))
     (ptrK p fun (b30 o31 : Nat) =>
     ldInt .i64 ⟨b30, o31 + Int.toNat n28 * 1, none⟩ H24 fun (n32 : Int) =>
      HX Try.prog F.pack_Put [.sl] #[.slice p25 n26 c27, .int .u64 (IntKind.wrap .u64 n32), .int .i64 2] G23 H24
      fun (p33 : Option Addr) (n34 c35 : Nat) (G36 : FF) (H37 : Heap) =>
      ∃ (m'38 : Nat), ltK m'38 m29 ∧ I20 m'38 p33 n34 c35 (IntKind.wrap .i64 (n28 + 1)) G36 H37))
     (HX Try.prog F.pack_Seal [.sl, .int .i64] #[.slice p25 n26 c27] G23 H24 fun (p39 : Option Addr) (n40 c41 : Nat) (n42 : Int) (G43 : FF) (H44 : Heap) =>
     R p39 n40 c41 G43 H44)) :
  HX Try.prog F.txn_head [.sl] #[.int .u32 q, .slice p n c] G H R :=
  fnX_sound { loop := fun | 0 => [(5, .sl), (22, .int .i64)] | _ => [] } Try.func71 (c := bodyOf Try.f71) rfl rfl (cast (by kernel_rfl) h)
set_option maxRecDepth 100000 in
/-- txn.end -/
theorem txnEnd_vc (q : Int) (G : FF) (H : Heap) (R : FX [.sl]) (h :
 newK (Obj.cells #[.int .u8 100, .int .u8 111, .int .u8 110, .int .u8 101] 5) H fun (r1 : Nat) (H2 : Heap) =>
 stepX G H H2 fun (G3 : FF) =>
 cvV Try.prog 29 29 (.slice (some ⟨r1, 0, none⟩) 4 4) H2 fun (v4 : Value) (H5 : Heap) =>
 ∃ (p6 : Option Addr),
  ∃ (n7 : Nat),
  ∃ (c8 : Nat),
  v4 = Value.slice p6 n7 c8 ∧
  stepX G3 H2 H5 fun (G9 : FF) =>
   HX Try.prog F.pack_Put [.sl] #[.slice p6 n7 c8, .int .u64 (IntKind.wrap .u64 q), .int .i64 4] G9 H5
   fun (p10 : Option Addr) (n11 c12 : Nat) (G13 : FF) (H14 : Heap) =>
   HX Try.prog F.pack_Seal [.sl, .int .i64] #[.slice p10 n11 c12] G13 H14 fun (p15 : Option Addr) (n16 c17 : Nat) (n18 : Int) (G19 : FF) (H20 : Heap) => R p15 n16 c17 G19 H20) :
  HX Try.prog F.txn_end [.sl] #[.int .u32 q] G H R :=
  fnX_sound {  } Try.func63 (c := bodyOf Try.f63) rfl rfl (cast (by kernel_rfl) h)
set_option maxRecDepth 100000 in
/-- txn.Pack -/
theorem txnPack_vc (t : Value) (G : FF) (H : Heap) (R : FX [.sl, .int .i64]) (h :
 agA t 3 fun (cs1 : Array Value) =>
 ∀ (G2 : FF) (H3 : Heap),
 Sto G H G2 H3 →
 HX Try.prog F.txn_Formed [.bool] #[.agg cs1] G2 H3 fun (b4 : Bool) (G5 : FF) (H6 : Heap) =>
  br (!b4) (R none 0 0 1 G5 H6)
  (bxInt .u32 cs1 0 fun (n7 : Int) =>
  bxSl cs1 1 fun (p8 : Option Addr) (n9 c10 : Nat) =>
  HX Try.prog F.txn_head [.sl] #[.int .u32 n7, .slice p8 n9 c10] G5 H6 fun (p11 : Option Addr) (n12 c13 : Nat) (G14 : FF) (H15 : Heap) =>
   newK (Obj.cells #[.slice p11 n12 c13] 29) H15 fun (r16 : Nat) (H17 : Heap) =>
   stepX G14 H15 H17 fun (G18 : FF) =>
   bxSl cs1 2 fun (p19 : Option Addr) (n20 c21 : Nat) =>
   ∃ (I22 : Nat → Option Addr → Nat → Nat → Int → FF → Heap → Prop),
    (∃ (m23 : Nat), I22 m23 (some ⟨r16, 0, none⟩) 1 1 0 G18 H17) ∧
    ∀ (_ : Nat → Value) (G25 : FF) (H26 : Heap),
    Im G18 H17 G25 H26 →
    ∀ (p27 : Option Addr) (n28 c29 : Nat) (n30 : Int) (m31 : Nat),
     I22 m31 p27 n28 c29 n30 G25 H26 →
     br (decide (n30 < (↑n20 : Int)))
     (chk (0 ≤ n30 ∧ n30 < (↑n20 : Int))
     (ptrK p19 fun (b32 o33 : Nat) =>
      ldSl ⟨b32, o33 + Int.toNat n30 * 1, none⟩ H26 fun (p34 : Option Addr) (n35 c36 : Nat) =>
      HX Try.prog F.slices_Clone_Sbyte_byte [.sl] #[.slice p34 n35 c36] G25 H26 fun (p37 : Option Addr) (n38 c39 : Nat) (G40 : FF) (H41 : Heap) =>
      newK (Obj.cells #[.slice p37 n38 c39] 29) H41 fun (r42 : Nat) (H43 : Heap) =>
      stepX G40 H41 H43 fun (G44 : FF) =>
       appV Try.prog #[45, 45] 45 #[.slice p27 n28 c29, .slice (some ⟨r42, 0, none⟩) 1 1] H43 fun (v45 : Value) (H46 : Heap) =>
       ∃ (p47 : Option Addr),
       ∃ (n48 : Nat),
       ∃ (c49 : Nat),
        v45 = Value.slice p47 n48 c49 ∧
        stepX G44 H43 H46 fun (G50 : FF) => ∃ (m'51 : Nat), ltK m'51 m31 ∧ I22 m'51 p47 n48 c49 (IntKind.wrap .i64 (n30 + 1)) G50 H46))
     (bxInt .u32 cs1 0 fun (n52 : Int) =>
     HX Try.prog F.txn_end [.sl] #[.int .u32 n52] G25 H26 fun (p53 : Option Addr) (n54 c55 : Nat) (G56 : FF) (H57 : Heap) =>
      newK (Obj.cells #[.slice p53 n54 c55] 29) H57 fun (r58 : Nat) (H59 : Heap) =>
      stepX G56 H57 H59 fun (G60 : FF) =>
      appV Try.prog #[45, 45] 45 #[.slice p27 n28 c29, .slice (some ⟨r58, 0, none⟩) 1 1] H59 fun (v61 : Value) (H62 : Heap) =>
      ∃ (p63 : Option Addr), ∃ (n64 : Nat), ∃ (c65 : Nat), v61 = Value.slice p63 n64 c65 ∧ stepX G60 H59 H62 fun (G66 : FF) => R p63 n64 c65 0 G66 H62))) :
  HX Try.prog F.txn_Pack [.sl, .int .i64] #[t] G H R :=
  fnX_sound { bx := [(1, 1), (10, 1), (12, 1), (16, 1), (30, 1)], bs := [(1, 3)], sy := [1], loop := fun | 0 => [(4, .sl), (19, .int .i64)] | _ => [] } Try.func61 (c := bodyOf Try.f61) rfl rfl (cast (by kernel_rfl) h)
set_option maxRecDepth 100000 in
/-- txn.begin -/
theorem txnBegin_vc (p : Option Addr) (n c : Nat) (G : FF) (H : Heap) (R : FX [.int .u32, .sl, .bool]) (h :
 br ((↑n : Int) == 0) (R 0 none 0 0 false G H)
 (chk ((0 : Int) ≤ 0 ∧ 0 < (↑n : Int))
 (ptrK p fun (b1 o2 : Nat) =>
 ldSl ⟨b1, o2 + 0, none⟩ H fun (p3 : Option Addr) (n4 c5 : Nat) =>
  HX Try.prog F.pack_Open [.sl, .bool] #[.slice p3 n4 c5] G H fun (p6 : Option Addr) (n7 c8 : Nat) (b9 : Bool) (G10 : FF) (H11 : Heap) =>
  br (!b9) (R 0 none 0 0 false G10 H11)
  (newK (Obj.cells #[.int .u8 106, .int .u8 114, .int .u8 110, .int .u8 108] 5) H11 fun (r12 : Nat) (H13 : Heap) =>
  stepX G10 H11 H13 fun (G14 : FF) =>
   cvV Try.prog 29 29 (.slice (some ⟨r12, 0, none⟩) 4 4) H13 fun (v15 : Value) (H16 : Heap) =>
   ∃ (p17 : Option Addr),
   ∃ (n18 : Nat),
   ∃ (c19 : Nat),
    v15 = Value.slice p17 n18 c19 ∧
    stepX G14 H13 H16 fun (G20 : FF) =>
    HX Try.prog F.bytes_HasPrefix [.bool] #[.slice p6 n7 c8, .slice p17 n18 c19] G20 H16 fun (b21 : Bool) (G22 : FF) (H23 : Heap) =>
    br (!b21) (R 0 none 0 0 false G22 H23)
     (HX Try.prog F.pack_Get [.int .u64, .bool] #[.slice p6 n7 c8, .int .i64 4, .int .i64 4] G22 H23
     fun (n24 : Int) (b25 : Bool) (G26 : FF) (H27 : Heap) =>
     HX Try.prog F.pack_Get [.int .u64, .bool] #[.slice p6 n7 c8, .int .i64 8, .int .i64 2] G26 H27
     fun (n28 : Int) (b29 : Bool) (G30 : FF) (H31 : Heap) =>
     br (decide (n28 > 37)) (R 0 none 0 0 false G30 H31)
     (∃ (I32 : Nat → Option Addr → Nat → Nat → Int → FF → Heap → Prop),
      (∃ (m33 : Nat), I32 m33 none 0 0 0 G30 H31) ∧
      ∀ (_ : Nat → Value) (G35 : FF) (H36 : Heap),
      Im G30 H31 G35 H36 →
      ∀ (p37 : Option Addr) (n38 c39 : Nat) (n40 : Int) (m41 : Nat),
       I32 m41 p37 n38 c39 n40 G35 H36 →
       br (decide (n40 < IntKind.wrap .i64 n28))
       (HX Try.prog F.pack_Get [.int .u64, .bool]
       #[.slice p6 n7 c8, .int .i64 (IntKind.wrap .i64 (10 + IntKind.wrap .i64 (2 * n40))), .int .i64 2] G35
       H36 fun (n42 : Int) (b43 : Bool) (G44 : FF) (H45 : Heap) =>
       newK (Obj.cells #[.int .i64 (IntKind.wrap .i64 n42)] 3) H45 fun (r46 : Nat) (H47 : Heap) =>
        stepX G44 H45 H47 fun (G48 : FF) =>
        appV Try.prog #[73, 73] 73 #[.slice p37 n38 c39, .slice (some ⟨r46, 0, none⟩) 1 1] H47 fun (v49 : Value) (H50 : Heap) =>
        ∃ (p51 : Option Addr),
        ∃ (n52 : Nat),
         ∃ (c53 : Nat),
         v49 = Value.slice p51 n52 c53 ∧
         stepX G48 H47 H50 fun (G54 : FF) =>
         ∃ (m'55 : Nat), ltK m'55 m41 ∧ I32 m'55 p51 n52 c53 (IntKind.wrap .i64 (n40 + 1)) G54 H50)
       (HX Try.prog F.txn_numbered [.bool] #[.slice p37 n38 c39] G35 H36 fun (b56 : Bool) (G57 : FF) (H58 : Heap) =>
       br (!b56) (R 0 none 0 0 false G57 H58)
        (chk ((0 : Int) ≤ 0 ∧ 0 < (↑n : Int))
        (ptrK p fun (b59 o60 : Nat) =>
        ldSl ⟨b59, o60 + 0, none⟩ H58 fun (p61 : Option Addr) (n62 c63 : Nat) =>
        HX Try.prog F.txn_head [.sl] #[.int .u32 (IntKind.wrap .u32 n24), .slice p37 n38 c39] G57 H58
         fun (p64 : Option Addr) (n65 c66 : Nat) (G67 : FF) (H68 : Heap) =>
         (ldSl ⟨b59, o60 + 0, none⟩ H68 fun (p69 : Option Addr) (n70 c71 : Nat) =>
         sameV (.slice p61 n62 c63) (.slice p69 n70 c71)) ∧
         HX Try.prog F.bytes_Equal [.bool] #[.slice p64 n65 c66, .slice p61 n62 c63] G67 H68 fun (b72 : Bool) (G73 : FF) (H74 : Heap) =>
         br (!b72) (R 0 none 0 0 false G73 H74) (R (IntKind.wrap .u32 n24) p37 n38 c39 true G73 H74)))))))))) :
  HX Try.prog F.txn_begin [.int .u32, .sl, .bool] #[.slice p n c] G H R :=
  fnX_sound { loop := fun | 0 => [(3, .sl), (47, .int .i64)] | _ => [] } Try.func56 (c := bodyOf Try.f56) rfl rfl (cast (by kernel_rfl) h)
set_option maxRecDepth 100000 in
/-- txn.Seq -/
theorem txnSeq_vc (p : Option Addr) (n c : Nat) (G : FF) (H : Heap) (R : FX [.int .u32, .bool]) (h :
 HX Try.prog F.txn_begin [.int .u32, .sl, .bool] #[.slice p n c] G H fun (n1 : Int) (p2 : Option Addr) (n3 c4 : Nat) (b5 : Bool) (G6 : FF) (H7 : Heap) => R n1 b5 G6 H7) :
  HX Try.prog F.txn_Seq [.int .u32, .bool] #[.slice p n c] G H R :=
  fnX_sound {  } Try.func44 (c := bodyOf Try.f44) rfl rfl (cast (by kernel_rfl) h)
set_option maxRecDepth 100000 in
/-- txn.Unpack -/
theorem txnUnpack_vc (p : Option Addr) (n c : Nat) (G : FF) (H : Heap) (R : FX [.any, .bool]) (h :
 ∀ (G1 : FF) (H2 : Heap),
 Sto G H G1 H2 →
 HX Try.prog F.txn_begin [.int .u32, .sl, .bool] #[.slice p n c] G1 H2 fun (n3 : Int) (p4 : Option Addr) (n5 c6 : Nat) (b7 : Bool) (G8 : FF) (H9 : Heap) =>
 br (!b7)
  (agA (.agg #[.int .u32 0, .slice none 0 0, .slice none 0 0]) 3 fun (cs10 : Array Value) =>
  ∀ (G11 : FF) (H12 : Heap), Sto G8 H9 G11 H12 → R (.agg cs10) false G11 H12)
  (br (decide (IntKind.wrap .i64 ((↑n : Int) - 2) < (↑n5 : Int)))
  (agA (.agg #[.int .u32 0, .slice none 0 0, .slice none 0 0]) 3 fun (cs13 : Array Value) =>
  ∀ (G14 : FF) (H15 : Heap), Sto G8 H9 G14 H15 → R (.agg cs13) false G14 H15)
  (chk (0 ≤ IntKind.wrap .i64 ((↑n : Int) - 1) ∧ IntKind.wrap .i64 ((↑n : Int) - 1) < (↑n : Int))
  (ptrK p fun (b16 o17 : Nat) =>
  ldSl ⟨b16, o17 + Int.toNat (IntKind.wrap .i64 ((↑n : Int) - 1)) * 1, none⟩ H9 fun (p18 : Option Addr) (n19 c20 : Nat) =>
   HX Try.prog F.txn_end [.sl] #[.int .u32 n3] G8 H9 fun (p21 : Option Addr) (n22 c23 : Nat) (G24 : FF) (H25 : Heap) =>
   (ldSl ⟨b16, o17 + Int.toNat (IntKind.wrap .i64 ((↑n : Int) - 1)) * 1, none⟩ H25 fun (p26 : Option Addr) (n27 c28 : Nat) =>
   sameV (.slice p18 n19 c20) (.slice p26 n27 c28)) ∧
   HX Try.prog F.bytes_Equal [.bool] #[.slice p18 n19 c20, .slice p21 n22 c23] G24 H25 fun (b29 : Bool) (G30 : FF) (H31 : Heap) =>
   br (!b29)
    (agA (.agg #[.int .u32 0, .slice none 0 0, .slice none 0 0]) 3 fun (cs32 : Array Value) =>
    ∀ (G33 : FF) (H34 : Heap), Sto G30 H31 G33 H34 → R (.agg cs32) false G33 H34)
    (agA (.agg #[.int .u32 n3, .slice p4 n5 c6, .slice none 0 0]) 3 fun (cs35 : Array Value) =>
    chk (0 ≤ IntKind.wrap .i64 (1 + (↑n5 : Int)) ∧ IntKind.wrap .i64 (1 + (↑n5 : Int)) ≤ (↑(bnd none c) : Int))
    (chk ((0 : Int) ≤ 1 ∧ 1 ≤ (↑(bnd (some (IntKind.wrap .i64 (1 + (↑n5 : Int)))) n) : Int))
    (∀ (G36 : FF) (H37 : Heap),
     Sto G30 H31 G36 H37 →
     ∃ (I38 : Nat → Int → Array Value → FF → Heap → Prop),
     (∃ (m39 : Nat), I38 m39 0 cs35 G36 H37) ∧
     ∀ (_ : Nat → Value) (G41 : FF) (H42 : Heap),
      Im G36 H37 G41 H42 →
      ∀ (n43 : Int) (cs44 : Array Value) (m45 : Nat),
      I38 m45 n43 cs44 G41 H42 →
      br (decide (n43 < (↑(bnd (some (IntKind.wrap .i64 (1 + (↑n5 : Int)))) n - 1) : Int)))
       (chk (0 ≤ n43 ∧ n43 < (↑(bnd (some (IntKind.wrap .i64 (1 + (↑n5 : Int)))) n - 1) : Int))
       (ptrK (slAt p 1 (bnd none c) 1) fun (b46 o47 : Nat) =>
       ldSl ⟨b46, o47 + Int.toNat n43 * 1, none⟩ H42 fun (p48 : Option Addr) (n49 c50 : Nat) =>
       bxSl cs44 2 fun (p51 : Option Addr) (n52 c53 : Nat) =>
        HX Try.prog F.slices_Clone_Sbyte_byte [.sl] #[.slice p48 n49 c50] G41 H42 fun (p54 : Option Addr) (n55 c56 : Nat) (G57 : FF) (H58 : Heap) =>
        newK (Obj.cells #[.slice p54 n55 c56] 29) H58 fun (r59 : Nat) (H60 : Heap) =>
        stepX G57 H58 H60 fun (G61 : FF) =>
        appV Try.prog #[45, 45] 45 #[.slice p51 n52 c53, .slice (some ⟨r59, 0, none⟩) 1 1] H60
         fun (v62 : Value) (H63 : Heap) =>
         ∃ (p64 : Option Addr),
         ∃ (n65 : Nat),
         ∃ (c66 : Nat),
         v62 = Value.slice p64 n65 c66 ∧
          stepX G61 H60 H63 fun (G67 : FF) =>
          ∀ (G68 : FF) (H69 : Heap),
          Sto G67 H63 G68 H69 →
          ∃ (m'70 : Nat),
           ltK m'70 m45 ∧ I38 m'70 (IntKind.wrap .i64 (n43 + 1)) (setC cs44 2 (.slice p64 n65 c66)) G68 H69))
       (HX Try.prog F.txn_Formed [.bool] #[.agg cs44] G41 H42 fun (b71 : Bool) (G72 : FF) (H73 : Heap) =>
       br (!b71)
       (agA (.agg #[.int .u32 0, .slice none 0 0, .slice none 0 0]) 3 fun (cs74 : Array Value) =>
       ∀ (G75 : FF) (H76 : Heap), Sto G72 H73 G75 H76 → R (.agg cs74) false G75 H76)
       (agA (.agg cs44) 3 fun (cs77 : Array Value) => ∀ (G78 : FF) (H79 : Heap), Sto G72 H73 G78 H79 → R (.agg cs77) true G78 H79))))))))) :
  HX Try.prog F.txn_Unpack [.any, .bool] #[.slice p n c] G H R :=
  fnX_sound { bx := [(2, 2), (7, 7), (52, 7), (58, 7)], bs := [(2, 3), (7, 3)], sy := [7, 2], loop := fun | 0 => [(48, .int .i64), (2000007, .agg)] | _ => [] } Try.func52 (c := bodyOf Try.f52) rfl rfl (cast (by kernel_rfl) h)
set_option maxRecDepth 100000 in
/-- slices.ContainsFunc[[]int,int] -/
theorem containsFits_vc (p : Option Addr) (n c : Nat) (r : Nat) (G : FF) (H : Heap) (R : FX [.bool]) (h :
 HX Try.prog F.slices_IndexFunc_Sint_int [.int .i64] #[.slice p n c, .func (Fn.func F.log_fits_1) #[] #[.pointer (some ⟨r, 0, none⟩)]] G H fun (n1 : Int) (G2 : FF) (H3 : Heap) =>
 R (decide (n1 ≥ 0)) G2 H3) :
  HX Try.prog F.slices_ContainsFunc_Sint_int [.bool] #[.slice p n c, .func (.func F.log_fits_1) #[] #[.pointer (some ⟨r, 0, none⟩)]] G H R :=
  fnX_sound {  } Try.func65 (c := bodyOf Try.f65) rfl rfl (cast (by kernel_rfl) h)
set_option maxRecDepth 100000 in
/-- slices.IndexFunc[[]int,int] -/
theorem indexFits_vc (p : Option Addr) (n c : Nat) (r : Nat) (G : FF) (H : Heap) (R : FX [.int .i64]) (h :
 ∃ (I1 : Nat → Int → FF → Heap → Prop),
 (∃ (m2 : Nat), I1 m2 0 G H) ∧
 ∀ (_ : Nat → Value) (G4 : FF) (H5 : Heap),
 Im G H G4 H5 →
  ∀ (n6 : Int) (m7 : Nat),
  I1 m7 n6 G4 H5 →
  br (decide (n6 < (↑n : Int)))
  (chk (0 ≤ n6 ∧ n6 < (↑n : Int))
   (ptrK p fun (b8 o9 : Nat) =>
   ldInt .i64 ⟨b8, o9 + Int.toNat n6 * 1, none⟩ H5 fun (n10 : Int) =>
   HX Try.prog F.log_fits_1 [.bool] #[.int .i64 n10, .pointer (some ⟨r, 0, none⟩)] G4 H5 fun (b11 : Bool) (G12 : FF) (H13 : Heap) =>
   br b11 (R n6 G12 H13) (∃ (m'14 : Nat), ltK m'14 m7 ∧ I1 m'14 (IntKind.wrap .i64 (n6 + 1)) G12 H13)))
  (R (-1) G4 H5)) :
  HX Try.prog F.slices_IndexFunc_Sint_int [.int .i64] #[.slice p n c, .func (.func F.log_fits_1) #[] #[.pointer (some ⟨r, 0, none⟩)]] G H R :=
  fnX_sound { loop := fun | 0 => [(8, .int .i64)] | _ => [] } Try.func79 (c := bodyOf Try.f79) rfl rfl (cast (by kernel_rfl) h)
set_option maxRecDepth 100000 in
/-- log.fits$1 -/
theorem fits1_vc (n : Int) (r : Nat) (G : FF) (H : Heap) (R : FX [.bool]) (h :
 ldPtr ⟨r, 0, none⟩ H fun (p1 : Option Addr) => HX Try.prog F.disk_Disk_Blocks [.int .i64] #[.pointer p1] G H fun (n2 : Int) (G3 : FF) (H4 : Heap) => R (decide (n ≥ n2)) G3 H4) :
  HX Try.prog F.log_fits_1 [.bool] #[.int .i64 n, .pointer (some ⟨r, 0, none⟩)] G H R :=
  fnX_sound {  } Try.func66 (c := bodyOf Try.f66) rfl rfl (cast (by kernel_rfl) h)
set_option maxRecDepth 100000 in
/-- slices.ContainsFunc[[][]byte,[]byte] -/
theorem containsForm_vc (p : Option Addr) (n c : Nat) (G : FF) (H : Heap) (R : FX [.bool]) (h :
 HX Try.prog F.slices_IndexFunc_SSbyte_Sbyte [.int .i64] #[.slice p n c, .func (Fn.func F.txn_Formed_1) #[] #[]] G H fun (n1 : Int) (G2 : FF) (H3 : Heap) => R (decide (n1 ≥ 0)) G2 H3) :
  HX Try.prog F.slices_ContainsFunc_SSbyte_Sbyte [.bool] #[.slice p n c, .func (.func F.txn_Formed_1) #[] #[]] G H R :=
  fnX_sound {  } Try.func77 (c := bodyOf Try.f77) rfl rfl (cast (by kernel_rfl) h)
set_option maxRecDepth 100000 in
/-- slices.IndexFunc[[][]byte,[]byte] -/
theorem indexForm_vc (p : Option Addr) (n c : Nat) (G : FF) (H : Heap) (R : FX [.int .i64]) (h :
 ∃ (I1 : Nat → Int → FF → Heap → Prop),
 (∃ (m2 : Nat), I1 m2 0 G H) ∧
 ∀ (_ : Nat → Value) (G4 : FF) (H5 : Heap),
 Im G H G4 H5 →
  ∀ (n6 : Int) (m7 : Nat),
  I1 m7 n6 G4 H5 →
  br (decide (n6 < (↑n : Int)))
  (chk (0 ≤ n6 ∧ n6 < (↑n : Int))
   (ptrK p fun (b8 o9 : Nat) =>
   ldSl ⟨b8, o9 + Int.toNat n6 * 1, none⟩ H5 fun (p10 : Option Addr) (n11 c12 : Nat) =>
   HX Try.prog F.txn_Formed_1 [.bool] #[.slice p10 n11 c12] G4 H5 fun (b13 : Bool) (G14 : FF) (H15 : Heap) =>
   br b13 (R n6 G14 H15) (∃ (m'16 : Nat), ltK m'16 m7 ∧ I1 m'16 (IntKind.wrap .i64 (n6 + 1)) G14 H15)))
  (R (-1) G4 H5)) :
  HX Try.prog F.slices_IndexFunc_SSbyte_Sbyte [.int .i64] #[.slice p n c, .func (.func F.txn_Formed_1) #[] #[]] G H R :=
  fnX_sound { loop := fun | 0 => [(8, .int .i64)] | _ => [] } Try.func93 (c := bodyOf Try.f93) rfl rfl (cast (by kernel_rfl) h)
set_option maxRecDepth 100000 in
/-- txn.Formed$1 -/
theorem form1_vc (p : Option Addr) (n c : Nat) (G : FF) (H : Heap) (R : FX [.bool]) (h :
 R ((↑n : Int) != 256) G H) :
  HX Try.prog F.txn_Formed_1 [.bool] #[.slice p n c] G H R :=
  fnX_sound {  } Try.func78 (c := bodyOf Try.f78) rfl rfl (cast (by kernel_rfl) h)
end Go.Proofs.Ash
