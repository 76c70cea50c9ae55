/-
  Parts of a proof: see the row.
-/
import Derived.Test.YtljdcbcjdlpbgaaLW
import Derived.Test.YtljdcbcjdlpbgaaMV
set_option linter.unusedVariables false
set_option linter.unusedSimpArgs false
open Go Go.Vc Go.V2 Go.Proofs
namespace Go.Proofs.Ash
set_option maxRecDepth 100000

/-! ## the journal of a new disk -/
theorem zs_open : sealed zs = false := by kernel_rfl
theorem newD_none : logE (newD 64) = 0 ∧ readL (newD 64) = none := by
  have hE : logE (newD 64) = 0 := by unfold logE newD; simp
  refine ⟨hE, ?_⟩
  have hb : beginL (logL (newD 64)) = none := by
    unfold logL
    rw [if_pos hE, show List.range 40 = 0 :: (List.range 39).map Nat.succ from List.range_succ_eq_map]
    show begO ((newD 64).is.getD (3 + 0) []) = none
    have : (newD 64).is.getD (3 + 0) [] = zs := by unfold newD; simp
    rw [this]
    unfold begO
    rw [if_pos (.inl zs_open)]
  unfold readL unpackL
  rw [hb]

/-! ## a store of a new disk -/
theorem storeOpen_new {G : FF} {H : Heap} {b : Nat} {D : DiskS} (hd : DiskAt G H b D) (hn : readL D = none) (he : logE D = 0) :
    HX Try.prog F.store_Open [.ptr, .int .i64] #[.pointer (some ⟨b, 0, none⟩)] G H fun p e G' H' => e = 0 ∧ ∃ r q s T, p = some ⟨r, 0, none⟩ ∧ G'.w r ∧ CellsAt H' r #[.pointer (some ⟨b, 0, none⟩), .int .u32 s, .map (some q), .map none, .bool false, .bool false] T := by
  refine storeOpen_vc _ G H _ ((logRecover_none hd hn).pure fun _ => ?_)
  rintro s _ _ H4 g4 ⟨rfl, _⟩
  refine br_bne (fun h1 => absurd he h1) fun _ => ?_
  refine new_im fun H6 g6 n6 s6 => new_own fun H9 g9 n9 s9 => ⟨rfl, _, _, _, _, rfl, FF.add_w _ _, .mk n9⟩
theorem storeOpen_nil {G : FF} {H : Heap} : HX Try.prog F.store_Open [.ptr, .int .i64] #[.pointer none] G H fun _ e _ _ => e = 1 := by
  refine storeOpen_vc _ G H _ ((logRecover_nil H).pure fun _ => ?_)
  rintro s _ _ H4 g4 ⟨rfl, rfl, rfl⟩
  exact br_true rfl rfl
theorem storeReady_nil (H : Heap) : HP Try.prog F.store_Store_ready [.int .i64] #[.pointer none] H fun e _ H' => H = H' ∧ e = 1 := storeReady_vc none E H _ (br_true rfl ⟨rfl, rfl⟩)
theorem storeBegin_new {G : FF} {H : Heap} {r : Nat} {T : TypeId} {v0 v1 v2 v3 : Value} (hw : G.w r) (hc : CellsAt H r #[v0, v1, v2, v3, .bool false, .bool false] T) :
    HX Try.prog F.store_Store_Begin [.int .i64] #[.pointer (some ⟨r, 0, none⟩)] G H fun e G' H' => e = 0 ∧ ∃ v3', CellsAt H' r #[v0, v1, v2, v3', .bool true, .bool false] T := by
  have hr : HP Try.prog F.store_Store_ready [.int .i64] #[.pointer (some ⟨r, 0, none⟩)] H fun e _ H' => H = H' ∧ e = 0 := storeReady_vc _ E H _ (br_false rfl ⟨false, by rw [hc.cell]; rfl, br_false rfl ⟨rfl, rfl⟩⟩)
  refine storeBegin_vc _ G H _ (hr.pure fun _ => ?_)
  rintro _ _ _ _ ⟨rfl, rfl⟩
  refine br_false rfl ⟨false, by rw [hc.cell]; rfl, br_false rfl (new_im fun H2 g2 n2 s2 => st_own hw (hc.of_block (g2.2 r hc.lt)) (by simp) rfl fun H3 s3 o3 e3 => st_own hw e3 (by simp) rfl fun H4 s4 o4 e4 => ⟨rfl, _, e4⟩)⟩
theorem storeBegin_nil {G : FF} {H : Heap} : HX Try.prog F.store_Store_Begin [.int .i64] #[.pointer none] G H fun e _ _ => e = 1 := by
  refine storeBegin_vc _ G H _ ((storeReady_nil H).pure fun _ => ?_)
  rintro _ _ _ _ ⟨rfl, rfl⟩
  exact br_true rfl rfl
theorem storeGet_nil {G : FF} {H : Heap} (n : Int) : HX Try.prog F.store_Store_Get [.sl, .int .i64] #[.pointer none, .int .i64 n] G H fun _ _ _ e _ _ => e = 1 := by
  refine storeGet_vc _ n G H _ ((storeReady_nil H).pure fun _ => ?_)
  rintro _ _ _ _ ⟨rfl, rfl⟩
  exact br_true rfl rfl
theorem storePut_nil {G : FF} {H : Heap} (k : Int) (p : Option Addr) (n c : Nat) : HX Try.prog F.store_Store_Put [.int .i64] #[.pointer none, .int .i64 k, .slice p n c] G H fun e _ _ => e = 1 := by
  refine storePut_vc _ k p n c G H _ ((storeReady_nil H).pure fun _ => ?_)
  rintro _ _ _ _ ⟨rfl, rfl⟩
  exact br_true rfl rfl
theorem storeEnd_nil {G : FF} {H : Heap} (k : Bool) : HX Try.prog F.store_Store_End [.int .i64] #[.pointer none, .bool k] G H fun e _ _ => e = 1 := by
  refine storeEnd_vc _ k G H _ ((storeReady_nil H).pure fun _ => ?_)
  rintro _ _ _ _ ⟨rfl, rfl⟩
  exact br_true rfl rfl
theorem storeSync_nil {G : FF} {H : Heap} : HX Try.prog F.store_Store_Sync [.int .i64] #[.pointer none] G H fun e _ _ => e = 1 := by
  refine storeSync_vc _ G H _ ((storeReady_nil H).pure fun _ => ?_)
  rintro _ _ _ _ ⟨rfl, rfl⟩
  exact br_true rfl rfl
theorem awake_spec {G : FF} {H : Heap} : HX Try.prog F.ashlarlaw11_awake [.bool] #[] G H fun b _ _ => b = true := by
  refine awake_vc G H _ ((diskNew_spec 64 G H).call fun _ => ?_)
  rintro _ G2 H3 ⟨x3, w3⟩ ⟨b, rfl, _, hd⟩
  have hd : DiskAt G2 H3 b (newD 64) := hd
  refine (storeOpen_new hd newD_none.2 newD_none.1).call fun _ => ?_
  rintro _ _ G6 H7 ⟨x7, w7⟩ ⟨rfl, r, q, s, T, rfl, hw, hc⟩
  refine br_true rfl (br_true rfl ((storeBegin_new hw hc).call fun _ => ?_))
  rintro _ G9 H10 _ ⟨rfl, v3, hc'⟩
  exact br_true rfl (storeWithin_vc _ G9 H10 _ (br_true rfl ⟨true, by rw [hc'.cell]; rfl, rfl⟩))
theorem stepX_upto {G : FF} {H H' : Heap} {K : FF → Prop} (g : Grow H H') (k : WF (G.upto H H') H' → K (G.upto H H')) : stepX G H H' K := fun hw =>
  have w' : WF (G.upto H H') H' := ⟨fun k hk => hk.elim (fun h => Nat.lt_of_lt_of_le (hw.lt k h) g.1) fun h => h.2, fun k hk => hk.imp (hw.sub k) id⟩
  ⟨G.upto H H', ⟨g.1, fun k hk _ => g.2 k hk, fun k hk => hk.imp id fun h => h.1, fun k hk => .inl hk, fun k hk => hk.imp id fun h => h.1⟩, w', k w'⟩
theorem opBlock_spec {G : FF} {H : Heap} (kd n by_ : Int) (kp sh : Bool) : HX Try.prog F.ashlarlaw11_Op_block [.sl] #[.agg #[.int .i64 kd, .int .i64 n, .int .u8 by_, .bool kp, .bool sh]] G H fun _ _ _ _ _ => True := by
  refine opBlock_vc kd n by_ kp sh G H _ fun G1 H2 _ => ?_
  obtain ⟨ii, hii, hiz, hib, his⟩ := info_u8
  refine msV_own (n := 256) und_bytes hii hiz (by omega) (by rw [his]; rfl) (by omega) fun H4 o4 g4 s4 => ⟨_, _, _, rfl, stepX_upto g4 fun w4 => ?_⟩
  rw [his] at o4
  have o4' : Own (notG (G1.upto H2 H4)) T.uint8 1 H4 (some ⟨H2.size, 0, none⟩) 256 256 (zeroRow (.int .u8 0) 256) := o4.mono fun a ha hn hc => hc (.inr ⟨Nat.not_lt.1 hn, o4.lt a ha⟩)
  refine ⟨fun p n c G' H' => n ≤ 256 ∧ ∃ vs, Own (notG G') T.uint8 1 H' p n c vs, br_intro (fun _ => ⟨by simp [bnd], by omega, _, o4'.cut (by omega)⟩) (fun _ => ⟨Nat.le_refl _, _, o4'⟩), ?_⟩
  rintro _ G11 H12 _ p m c ⟨hm, vs, o⟩
  refine ⟨fun k i G' H' => 0 ≤ i ∧ i ≤ m ∧ k = (m - i).toNat ∧ ∃ vs, Own (notG G') T.uint8 1 H' p m c vs, ⟨_, by omega, by omega, rfl, vs, o⟩, ?_⟩
  rintro _ G19 H20 _ i k ⟨i0, i1, rfl, vs, o⟩
  refine br_dec (fun hi => ⟨by omega, ?_⟩) fun hi => trivial
  have hl := o.1
  refine o.st (i := i.toNat * 1) (v := .int .u8 by_) (by omega) rfl fun b' hp st => st _ fun H' kp s o' => ?_
  refine stepX_own (notG_w (o.not _ hp)) s (same_out s kp fun a ha => ?_) ⟨_, ?_, by rw [wrap_i64 (by omega) (by omega)]; omega, by rw [wrap_i64 (by omega) (by omega)]; omega, rfl, _, o'⟩
  · rw [hp] at ha; cases ha; rfl
  · rw [wrap_i64 (by omega) (by omega)]; simp only [ltK]; omega
theorem storeNil_spec {G : FF} {H : Heap} (kd n by_ : Int) (kp sh : Bool) : HX Try.prog F.ashlarlaw11_StoreNil [.bool] #[.agg #[.int .i64 kd, .int .i64 n, .int .u8 by_, .bool kp, .bool sh]] G H fun b _ _ => b = true := by
  refine storeNil_vc kd n by_ kp sh G H _ fun G1 H2 _ => awake_spec.call fun _ => ?_
  rintro _ G4 H5 _ rfl
  refine br_false rfl (storeOpen_nil.call fun _ => ?_)
  rintro _ _ _ _ _ rfl
  refine (storeGet_nil n).call fun _ => ?_
  rintro _ _ _ _ _ _ _ rfl
  refine br_true rfl (br_true rfl (storeBegin_nil.call fun _ => ?_))
  rintro _ _ _ _ rfl
  refine br_true rfl ((opBlock_spec kd n by_ kp sh).call fun _ => ?_)
  rintro p m c _ _ _ _
  refine (storePut_nil n p m c).call fun _ => ?_
  rintro _ _ _ _ rfl
  refine br_true rfl ((storeEnd_nil kp).call fun _ => ?_)
  rintro _ _ _ _ rfl
  refine br_true rfl (storeSync_nil.call fun _ => ?_)
  rintro _ G9 H9 _ rfl
  refine br_true rfl (storeDirty_vc none _ _ _ (br_true rfl (br_true rfl (storeWithin_vc none _ _ _ (br_false rfl (br_true rfl (storeOver_vc none _ _ _ (br_false rfl rfl))))))))
end Go.Proofs.Ash
