/-
  Parts of a proof: see the row.
-/
import Derived.Test.YtljdcbcjdlpbgaaNums2
set_option linter.unusedVariables false
set_option linter.unusedSimpArgs false
open Go Go.Vc Go.V2 Go.Proofs
namespace Go.Proofs.Ash
set_option maxRecDepth 100000 in
/-- store.Open -/
theorem storeOpen_vc (d : Option Addr) (G : FF) (H : Heap) (R : FX [.ptr, .int .i64]) (h :
 HX Try.prog F.log_Recover [.int .u32, .int .i64] #[.pointer d] G H fun (n1 n2 : Int) (G3 : FF) (H4 : Heap) =>
 br (n2 != 0) (R none n2 G3 H4)
 (newK (Obj.map #[] 0) H4 fun (r5 : Nat) (H6 : Heap) =>
 stepX G3 H4 H6 fun (G7 : FF) =>
  newK (Obj.cells #[.pointer d, .int .u32 n1, .map (some r5), .map none, .bool false, .bool false] 60) H6 fun (r8 : Nat) (H9 : Heap) =>
  stepX G7 H6 H9 fun (G10 : FF) => R (some ⟨r8, 0, none⟩) 0 G10 H9)) :
  HX Try.prog F.store_Open [.ptr, .int .i64] #[.pointer d] G H R :=
  fnX_sound {  } Try.func6 (c := bodyOf Try.f6) rfl rfl (cast (by kernel_rfl) h)
set_option maxRecDepth 100000 in
/-- store.Store.ready -/
theorem storeReady_vc (s : Option Addr) (G : FF) (H : Heap) (R : FX [.int .i64]) (h :
 br (Option.isNone s) (R 1 G H) (ptrK s fun (b1 o2 : Nat) => ldBool ⟨b1, o2 + 5, none⟩ H fun (b3 : Bool) => br b3 (R 2 G H) (R 0 G H))) :
  HX Try.prog F.store_Store_ready [.int .i64] #[.pointer s] G H R :=
  fnX_sound {  } Try.func25 (c := bodyOf Try.f25) rfl rfl (cast (by kernel_rfl) h)
set_option maxRecDepth 100000 in
/-- store.Store.Begin -/
theorem storeBegin_vc (s : Option Addr) (G : FF) (H : Heap) (R : FX [.int .i64]) (h :
 HX Try.prog F.store_Store_ready [.int .i64] #[.pointer s] G H fun (n1 : Int) (G2 : FF) (H3 : Heap) =>
 br (n1 != 0) (R n1 G2 H3)
 (ptrK s fun (b4 o5 : Nat) =>
 ldBool ⟨b4, o5 + 4, none⟩ H3 fun (b6 : Bool) =>
  br b6 (R 17 G2 H3)
  (newK (Obj.map #[] 0) H3 fun (r7 : Nat) (H8 : Heap) =>
  stepX G2 H3 H8 fun (G9 : FF) =>
  ptrK s fun (b10 o11 : Nat) =>
   stV ⟨b10, o11 + 4, none⟩ (.bool true) H8 fun (H12 : Heap) =>
   stepX G9 H8 H12 fun (G13 : FF) =>
   ptrK s fun (b14 o15 : Nat) => stV ⟨b14, o15 + 3, none⟩ (.map (some r7)) H12 fun (H16 : Heap) => stepX G13 H12 H16 fun (G17 : FF) => R 0 G17 H16))) :
  HX Try.prog F.store_Store_Begin [.int .i64] #[.pointer s] G H R :=
  fnX_sound {  } Try.func8 (c := bodyOf Try.f8) rfl rfl (cast (by kernel_rfl) h)
set_option maxRecDepth 100000 in
/-- store.Store.Get -/
theorem storeGet_vc (s : Option Addr) (n : Int) (G : FF) (H : Heap) (R : FX [.sl, .int .i64]) (h :
 HX Try.prog F.store_Store_ready [.int .i64] #[.pointer s] G H fun (n1 : Int) (G2 : FF) (H3 : Heap) =>
 br (n1 != 0) (R none 0 0 n1 G2 H3)
 (ptrK s fun (b4 o5 : Nat) =>
 ldMap ⟨b4, o5 + 3, none⟩ H3 fun (m6 : Option Nat) =>
  mapK (.map m6) H3 fun (es7 : Array MapEntry) =>
  keysI .i64 (Array.toList es7) ∧
  (∀ (v8 : Value),
   mget n (Array.toList es7) = some v8 →
   ∃ (p9 : Option Addr),
   ∃ (n10 : Nat),
   ∃ (c11 : Nat),
    v8 = Value.slice p9 n10 c11 ∧
    ptrK s fun (b12 o13 : Nat) =>
    ldBool ⟨b12, o13 + 4, none⟩ H3 fun (b14 : Bool) =>
    br b14 (HX Try.prog F.slices_Clone_Sbyte_byte [.sl] #[.slice p9 n10 c11] G2 H3 fun (p15 : Option Addr) (n16 c17 : Nat) (G18 : FF) (H19 : Heap) => R p15 n16 c17 0 G18 H19)
     (ptrK s fun (b20 o21 : Nat) =>
     ldMap ⟨b20, o21 + 2, none⟩ H3 fun (m22 : Option Nat) =>
     mapK (.map m22) H3 fun (es23 : Array MapEntry) =>
     keysI .i64 (Array.toList es23) ∧
      (∀ (v24 : Value),
      mget n (Array.toList es23) = some v24 →
      ∃ (p25 : Option Addr),
       ∃ (n26 : Nat),
       ∃ (c27 : Nat),
       v24 = Value.slice p25 n26 c27 ∧
       HX Try.prog F.slices_Clone_Sbyte_byte [.sl] #[.slice p25 n26 c27] G2 H3 fun (p28 : Option Addr) (n29 c30 : Nat) (G31 : FF) (H32 : Heap) =>
        R p28 n29 c30 0 G31 H32) ∧
      (mget n (Array.toList es23) = none →
      ptrK s fun (b33 o34 : Nat) =>
      ldPtr ⟨b33, o34, none⟩ H3 fun (p35 : Option Addr) =>
       HX Try.prog F.disk_Disk_Read [.sl, .int .i64] #[.pointer p35, .int .i64 n] G2 H3
       fun (p36 : Option Addr) (n37 c38 : Nat) (n39 : Int) (G40 : FF) (H41 : Heap) =>
       HX Try.prog F.store_Store_met [.int .i64] #[.pointer s, .int .i64 n39] G40 H41 fun (n42 : Int) (G43 : FF) (H44 : Heap) =>
       R p36 n37 c38 n42 G43 H44))) ∧
  (mget n (Array.toList es7) = none →
   ptrK s fun (b45 o46 : Nat) =>
   ldMap ⟨b45, o46 + 2, none⟩ H3 fun (m47 : Option Nat) =>
   mapK (.map m47) H3 fun (es48 : Array MapEntry) =>
   keysI .i64 (Array.toList es48) ∧
    (∀ (v49 : Value),
    mget n (Array.toList es48) = some v49 →
    ∃ (p50 : Option Addr),
     ∃ (n51 : Nat),
     ∃ (c52 : Nat),
     v49 = Value.slice p50 n51 c52 ∧
     HX Try.prog F.slices_Clone_Sbyte_byte [.sl] #[.slice p50 n51 c52] G2 H3 fun (p53 : Option Addr) (n54 c55 : Nat) (G56 : FF) (H57 : Heap) => R p53 n54 c55 0 G56 H57) ∧
    (mget n (Array.toList es48) = none →
    ptrK s fun (b58 o59 : Nat) =>
    ldPtr ⟨b58, o59, none⟩ H3 fun (p60 : Option Addr) =>
     HX Try.prog F.disk_Disk_Read [.sl, .int .i64] #[.pointer p60, .int .i64 n] G2 H3
     fun (p61 : Option Addr) (n62 c63 : Nat) (n64 : Int) (G65 : FF) (H66 : Heap) =>
     HX Try.prog F.store_Store_met [.int .i64] #[.pointer s, .int .i64 n64] G65 H66 fun (n67 : Int) (G68 : FF) (H69 : Heap) => R p61 n62 c63 n67 G68 H69)))) :
  HX Try.prog F.store_Store_Get [.sl, .int .i64] #[.pointer s, .int .i64 n] G H R :=
  fnX_sound {  } Try.func7 (c := bodyOf Try.f7) rfl rfl (cast (by kernel_rfl) h)
set_option maxRecDepth 100000 in
/-- store.Store.Put -/
theorem storePut_vc (s : Option Addr) (k : Int) (p : Option Addr) (n c : Nat) (G : FF) (H : Heap) (R : FX [.int .i64]) (h :
 HX Try.prog F.store_Store_ready [.int .i64] #[.pointer s] G H fun (n1 : Int) (G2 : FF) (H3 : Heap) =>
 br (n1 != 0) (R n1 G2 H3)
 (ptrK s fun (b4 o5 : Nat) =>
 ldMap ⟨b4, o5 + 3, none⟩ H3 fun (m6 : Option Nat) =>
  mapK (.map m6) H3 fun (es7 : Array MapEntry) =>
  keysI .i64 (Array.toList es7) ∧
  (∀ (v8 : Value),
   mget k (Array.toList es7) = some v8 →
   ∃ (p9 : Option Addr),
   ∃ (n10 : Nat),
   ∃ (c11 : Nat),
    v8 = Value.slice p9 n10 c11 ∧
    ptrK s fun (b12 o13 : Nat) =>
    ldBool ⟨b12, o13 + 4, none⟩ H3 fun (b14 : Bool) =>
    br (!b14) (R 17 G2 H3)
     (br (decide (k < 0)) (R 1 G2 H3)
     (ptrK s fun (b15 o16 : Nat) =>
     ldPtr ⟨b15, o16, none⟩ H3 fun (p17 : Option Addr) =>
     HX Try.prog F.disk_Disk_Blocks [.int .i64] #[.pointer p17] G2 H3 fun (n18 : Int) (G19 : FF) (H20 : Heap) =>
      br (decide (k ≥ n18)) (R 1 G19 H20)
      (br ((↑n : Int) != 256) (R 1 G19 H20)
      (ptrK s fun (b21 o22 : Nat) =>
      ldMap ⟨b21, o22 + 3, none⟩ H20 fun (m23 : Option Nat) =>
       HX Try.prog F.slices_Clone_Sbyte_byte [.sl] #[.slice p n c] G19 H20 fun (p24 : Option Addr) (n25 c26 : Nat) (G27 : FF) (H28 : Heap) =>
       (ldMap ⟨b21, o22 + 3, none⟩ H28 fun (m29 : Option Nat) => sameV (.map m23) (.map m29)) ∧
       muV Try.prog 58 (.map m23) (.int .i64 k) (.slice p24 n25 c26) H28 fun (H30 : Heap) =>
       stepX G27 H28 H30 fun (G31 : FF) => R 0 G31 H30))))) ∧
  (mget k (Array.toList es7) = none →
   ptrK s fun (b32 o33 : Nat) =>
   ldBool ⟨b32, o33 + 4, none⟩ H3 fun (b34 : Bool) =>
   br (!b34) (R 17 G2 H3)
   (br (decide (k < 0)) (R 1 G2 H3)
    (ptrK s fun (b35 o36 : Nat) =>
    ldPtr ⟨b35, o36, none⟩ H3 fun (p37 : Option Addr) =>
    HX Try.prog F.disk_Disk_Blocks [.int .i64] #[.pointer p37] G2 H3 fun (n38 : Int) (G39 : FF) (H40 : Heap) =>
    br (decide (k ≥ n38)) (R 1 G39 H40)
     (br ((↑n : Int) != 256) (R 1 G39 H40)
     (ptrK s fun (b41 o42 : Nat) =>
     ldMap ⟨b41, o42 + 3, none⟩ H40 fun (m43 : Option Nat) =>
     mapK (.map m43) H40 fun (es44 : Array MapEntry) =>
      br (decide ((↑(Array.size es44) : Int) ≥ 37)) (R 13 G39 H40)
      (ptrK s fun (b45 o46 : Nat) =>
      ldMap ⟨b45, o46 + 3, none⟩ H40 fun (m47 : Option Nat) =>
      HX Try.prog F.slices_Clone_Sbyte_byte [.sl] #[.slice p n c] G39 H40 fun (p48 : Option Addr) (n49 c50 : Nat) (G51 : FF) (H52 : Heap) =>
       (ldMap ⟨b45, o46 + 3, none⟩ H52 fun (m53 : Option Nat) => sameV (.map m47) (.map m53)) ∧
       muV Try.prog 58 (.map m47) (.int .i64 k) (.slice p48 n49 c50) H52 fun (H54 : Heap) =>
       stepX G51 H52 H54 fun (G55 : FF) => R 0 G55 H54)))))))) :
  HX Try.prog F.store_Store_Put [.int .i64] #[.pointer s, .int .i64 k, .slice p n c] G H R :=
  fnX_sound {  } Try.func9 (c := bodyOf Try.f9) rfl rfl (cast (by kernel_rfl) h)
set_option maxRecDepth 100000 in
/-- store.Store.End -/
theorem storeEnd_vc (s : Option Addr) (k : Bool) (G : FF) (H : Heap) (R : FX [.int .i64]) (h :
 HX Try.prog F.store_Store_ready [.int .i64] #[.pointer s] G H fun (n1 : Int) (G2 : FF) (H3 : Heap) =>
 br (n1 != 0) (R n1 G2 H3)
 (ptrK s fun (b4 o5 : Nat) =>
 ldBool ⟨b4, o5 + 4, none⟩ H3 fun (b6 : Bool) =>
  br (!b6) (R 17 G2 H3)
  (ptrK s fun (b7 o8 : Nat) =>
  stV ⟨b7, o8 + 4, none⟩ (.bool false) H3 fun (H9 : Heap) =>
  stepX G2 H3 H9 fun (G10 : FF) =>
   br (!k) (R 0 G10 H9)
   (ptrK s fun (b11 o12 : Nat) =>
   ldMap ⟨b11, o12 + 2, none⟩ H9 fun (m13 : Option Nat) =>
   HX Try.prog F.maps_Clone_map_int_Sbyte_int_Sbyte [.map] #[.map m13] G10 H9 fun (m14 : Option Nat) (G15 : FF) (H16 : Heap) =>
    ptrK s fun (b17 o18 : Nat) =>
    ldMap ⟨b17, o18 + 3, none⟩ H16 fun (m19 : Option Nat) =>
    HX Try.prog F.maps_Copy_map_int_Sbyte_map_int_Sbyte_int_Sbyte [] #[.map m14, .map m19] G15 H16 fun (G20 : FF) (H21 : Heap) =>
    mapK (.map m14) H21 fun (es22 : Array MapEntry) =>
     br (decide ((↑(Array.size es22) : Int) > 37))
     (HX Try.prog F.store_Store_commit [.int .i64] #[.pointer s] G20 H21 fun (n23 : Int) (G24 : FF) (H25 : Heap) =>
     br (n23 != 0) (R n23 G24 H25)
     (ptrK s fun (b26 o27 : Nat) =>
      ldMap ⟨b26, o27 + 3, none⟩ H25 fun (m28 : Option Nat) =>
      ptrK s fun (b29 o30 : Nat) => stV ⟨b29, o30 + 2, none⟩ (.map m28) H25 fun (H31 : Heap) => stepX G24 H25 H31 fun (G32 : FF) => R 0 G32 H31))
     (ptrK s fun (b33 o34 : Nat) => stV ⟨b33, o34 + 2, none⟩ (.map m14) H21 fun (H35 : Heap) => stepX G20 H21 H35 fun (G36 : FF) => R 0 G36 H35))))) :
  HX Try.prog F.store_Store_End [.int .i64] #[.pointer s, .bool k] G H R :=
  fnX_sound {  } Try.func11 (c := bodyOf Try.f11) rfl rfl (cast (by kernel_rfl) h)
set_option maxRecDepth 100000 in
/-- store.Store.Sync -/
theorem storeSync_vc (s : Option Addr) (G : FF) (H : Heap) (R : FX [.int .i64]) (h :
 HX Try.prog F.store_Store_ready [.int .i64] #[.pointer s] G H fun (n1 : Int) (G2 : FF) (H3 : Heap) =>
 br (n1 != 0) (R n1 G2 H3)
 (ptrK s fun (b4 o5 : Nat) =>
 ldBool ⟨b4, o5 + 4, none⟩ H3 fun (b6 : Bool) =>
  br b6 (R 17 G2 H3) (HX Try.prog F.store_Store_commit [.int .i64] #[.pointer s] G2 H3 fun (n7 : Int) (G8 : FF) (H9 : Heap) => R n7 G8 H9))) :
  HX Try.prog F.store_Store_Sync [.int .i64] #[.pointer s] G H R :=
  fnX_sound {  } Try.func12 (c := bodyOf Try.f12) rfl rfl (cast (by kernel_rfl) h)
set_option maxRecDepth 100000 in
/-- store.Store.Dirty -/
theorem storeDirty_vc (s : Option Addr) (G : FF) (H : Heap) (R : FX [.int .i64]) (h :
 br (Option.isNone s) (R 0 G H)
 (ptrK s fun (b1 o2 : Nat) => ldMap ⟨b1, o2 + 2, none⟩ H fun (m3 : Option Nat) => mapK (.map m3) H fun (es4 : Array MapEntry) => R (↑(Array.size es4) : Int) G H)) :
  HX Try.prog F.store_Store_Dirty [.int .i64] #[.pointer s] G H R :=
  fnX_sound {  } Try.func13 (c := bodyOf Try.f13) rfl rfl (cast (by kernel_rfl) h)
set_option maxRecDepth 100000 in
/-- store.Store.Within -/
theorem storeWithin_vc (s : Option Addr) (G : FF) (H : Heap) (R : FX [.bool]) (h :
 br (!Option.isNone s) (ptrK s fun (b1 o2 : Nat) => ldBool ⟨b1, o2 + 4, none⟩ H fun (b3 : Bool) => R b3 G H) (R false G H)) :
  HX Try.prog F.store_Store_Within [.bool] #[.pointer s] G H R :=
  fnX_sound {  } Try.func14 (c := bodyOf Try.f14) rfl rfl (cast (by kernel_rfl) h)
set_option maxRecDepth 100000 in
/-- store.Store.Over -/
theorem storeOver_vc (s : Option Addr) (G : FF) (H : Heap) (R : FX [.bool]) (h :
 br (!Option.isNone s) (ptrK s fun (b1 o2 : Nat) => ldBool ⟨b1, o2 + 5, none⟩ H fun (b3 : Bool) => R b3 G H) (R false G H)) :
  HX Try.prog F.store_Store_Over [.bool] #[.pointer s] G H R :=
  fnX_sound {  } Try.func15 (c := bodyOf Try.f15) rfl rfl (cast (by kernel_rfl) h)
set_option maxRecDepth 100000 in
/-- (ashlar/ashlarlaw11.Op).block -/
theorem opBlock_vc (kd n by_ : Int) (kp sh : Bool) (G : FF) (H : Heap) (R : FX [.sl]) (h :
 ∀ (G1 : FF) (H2 : Heap),
 Sto G H G1 H2 →
 msV Try.prog 29 (.int .i64 256) (.int .i64 256) H2 fun (v3 : Value) (H4 : Heap) =>
 ∃ (p5 : Option Addr),
  ∃ (n6 : Nat),
  ∃ (c7 : Nat),
  v3 = Value.slice p5 n6 c7 ∧
  stepX G1 H2 H4 fun (G8 : FF) =>
   ∃ (J9 : Option Addr → Nat → Nat → FF → Heap → Prop),
   br sh (chk ((0 : Int) ≤ 255 ∧ 255 ≤ (↑(bnd none c7) : Int)) (J9 (slAt p5 0 (bnd none c7) 1) 255 (bnd none c7 - 0) G8 H4)) (J9 p5 n6 c7 G8 H4) ∧
   ∀ (_ : Nat → Value) (G11 : FF) (H12 : Heap),
   Im G8 H4 G11 H12 →
    ∀ (p13 : Option Addr) (n14 c15 : Nat),
    J9 p13 n14 c15 G11 H12 →
    ∃ (I16 : Nat → Int → FF → Heap → Prop),
    (∃ (m17 : Nat), I16 m17 0 G11 H12) ∧
     ∀ (_ : Nat → Value) (G19 : FF) (H20 : Heap),
     Im G11 H12 G19 H20 →
     ∀ (n21 : Int) (m22 : Nat),
     I16 m22 n21 G19 H20 →
      br (decide (n21 < (↑n14 : Int)))
      (chk (0 ≤ n21 ∧ n21 < (↑n14 : Int))
      (ptrK p13 fun (b23 o24 : Nat) =>
      stV ⟨b23, o24 + Int.toNat n21 * 1, none⟩ (.int .u8 by_) H20 fun (H25 : Heap) =>
       stepX G19 H20 H25 fun (G26 : FF) => ∃ (m'27 : Nat), ltK m'27 m22 ∧ I16 m'27 (IntKind.wrap .i64 (n21 + 1)) G26 H25))
      (R p13 n14 c15 G19 H20)) :
  HX Try.prog F.ashlarlaw11_Op_block [.sl] #[.agg #[.int .i64 kd, .int .i64 n, .int .u8 by_, .bool kp, .bool sh]] G H R :=
  fnX_sound { bx := [(1, 1), (6, 1), (17, 1)], bs := [(1, 5)], loop := fun | 0 => [(12, .int .i64)] | _ => [], cut := fun | 4 => some [(3, .sl)] | _ => none } Try.func10 (c := bodyOf Try.f10) rfl rfl (cast (by kernel_rfl) h)
set_option maxRecDepth 100000 in
/-- ashlarlaw11.awake -/
theorem awake_vc  (G : FF) (H : Heap) (R : FX [.bool]) (h :
 HX Try.prog F.disk_New [.ptr] #[.int .i64 64] G H fun (p1 : Option Addr) (G2 : FF) (H3 : Heap) =>
 HX Try.prog F.store_Open [.ptr, .int .i64] #[.pointer p1] G2 H3 fun (p4 : Option Addr) (n5 : Int) (G6 : FF) (H7 : Heap) =>
 br (n5 == 0)
 (br (!Option.isNone p4)
  (HX Try.prog F.store_Store_Begin [.int .i64] #[.pointer p4] G6 H7 fun (n8 : Int) (G9 : FF) (H10 : Heap) =>
  br (n8 == 0) (HX Try.prog F.store_Store_Within [.bool] #[.pointer p4] G9 H10 fun (b11 : Bool) (G12 : FF) (H13 : Heap) => R b11 G12 H13) (R false G9 H10))
  (R false G6 H7))
 (R false G6 H7)) :
  HX Try.prog F.ashlarlaw11_awake [.bool] #[] G H R :=
  fnX_sound {  } Try.func5 (c := bodyOf Try.f5) rfl rfl (cast (by kernel_rfl) h)
set_option maxRecDepth 100000 in
/-- ashlarlaw11.StoreNil -/
theorem storeNil_vc (kd n by_ : Int) (kp sh : Bool) (G : FF) (H : Heap) (R : FX [.bool]) (h :
 ∀ (G1 : FF) (H2 : Heap),
 Sto G H G1 H2 →
 HX Try.prog F.ashlarlaw11_awake [.bool] #[] G1 H2 fun (b3 : Bool) (G4 : FF) (H5 : Heap) =>
 br (!b3) (R false G4 H5)
  (HX Try.prog F.store_Open [.ptr, .int .i64] #[.pointer none] G4 H5 fun (p6 : Option Addr) (n7 : Int) (G8 : FF) (H9 : Heap) =>
  HX Try.prog F.store_Store_Get [.sl, .int .i64] #[.pointer none, .int .i64 n] G8 H9 fun (p10 : Option Addr) (n11 c12 : Nat) (n13 : Int) (G14 : FF) (H15 : Heap) =>
  br (n7 == 1)
  (br (n13 == 1)
   (HX Try.prog F.store_Store_Begin [.int .i64] #[.pointer none] G14 H15 fun (n16 : Int) (G17 : FF) (H18 : Heap) =>
   br (n16 == 1)
   (HX Try.prog F.ashlarlaw11_Op_block [.sl] #[.agg #[.int .i64 kd, .int .i64 n, .int .u8 by_, .bool kp, .bool sh]] G17 H18
   fun (p19 : Option Addr) (n20 c21 : Nat) (G22 : FF) (H23 : Heap) =>
   HX Try.prog F.store_Store_Put [.int .i64] #[.pointer none, .int .i64 n, .slice p19 n20 c21] G22 H23 fun (n24 : Int) (G25 : FF) (H26 : Heap) =>
    br (n24 == 1)
    (HX Try.prog F.store_Store_End [.int .i64] #[.pointer none, .bool kp] G25 H26 fun (n27 : Int) (G28 : FF) (H29 : Heap) =>
    br (n27 == 1)
    (HX Try.prog F.store_Store_Sync [.int .i64] #[.pointer none] G28 H29 fun (n30 : Int) (G31 : FF) (H32 : Heap) =>
     br (n30 == 1)
     (HX Try.prog F.store_Store_Dirty [.int .i64] #[.pointer none] G31 H32 fun (n33 : Int) (G34 : FF) (H35 : Heap) =>
     br (n33 == 0)
     (HX Try.prog F.store_Store_Within [.bool] #[.pointer none] G34 H35 fun (b36 : Bool) (G37 : FF) (H38 : Heap) =>
      br (!b36) (HX Try.prog F.store_Store_Over [.bool] #[.pointer none] G37 H38 fun (b39 : Bool) (G40 : FF) (H41 : Heap) => R (!b39) G40 H41) (R false G37 H38))
     (R false G34 H35))
     (R false G31 H32))
    (R false G28 H29))
    (R false G25 H26))
   (R false G17 H18))
   (R false G14 H15))
  (R false G14 H15))) :
  HX Try.prog F.ashlarlaw11_StoreNil [.bool] #[.agg #[.int .i64 kd, .int .i64 n, .int .u8 by_, .bool kp, .bool sh]] G H R :=
  fnX_sound { bx := [(1, 1), (16, 1), (34, 1), (43, 1)], bs := [(1, 5)] } Try.func3 (c := bodyOf Try.f3) rfl rfl (cast (by kernel_rfl) h)
end Go.Proofs.Ash
