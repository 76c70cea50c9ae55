/-
  Parts of a proof: see the row.
-/
import Derived.Test.YtljdcbcjdlpbgaaLT
set_option linter.unusedVariables false
set_option linter.unusedSimpArgs false
open Go Go.Vc Go.V2 Go.Proofs
namespace Go.Proofs.Ash
set_option maxRecDepth 100000

theorem away_e {G : FF} {N : Fp} {H H' : Heap} (x : Ext E.x H N H') : Away G H G H' := ⟨fun k hk _ => x.2 k hk fun h => h.elim, fun _ h => h, fun _ h => .inl h, x.1⟩
theorem logReady_spec {G : FF} {H : Heap} {b : Nat} {D : DiskS} (h : DiskAt G H b D) : HP Try.prog F.log_ready [.bool] #[.pointer (some ⟨b, 0, none⟩)] H fun r _ H' => H = H' ∧ r = decide (64 ≤ D.is.length) := by
  refine logReady_vc _ E H _ ((diskBlocks_spec h).pure fun _ => ?_)
  rintro _ _ _ _ ⟨rfl, rfl⟩
  exact ⟨rfl, by simp only [decide_eq_decide]; omega⟩
theorem fits1_spec {G : FF} {H : Heap} {b r : Nat} {D : DiskS} (h : DiskAt G H b D) {Tt : TypeId} {f : Nat × Nat} (hr : H[r]? = some (.cells #[.pointer (some ⟨b, 0, none⟩)] Tt f)) (n : Int) :
    HP Try.prog F.log_fits_1 [.bool] #[.int .i64 n, .pointer (some ⟨r, 0, none⟩)] H fun x _ H' => H = H' ∧ x = !(decide (n < D.is.length)) := by
  refine fits1_vc n r E H _ ⟨_, by rw [hcell_cells hr]; rfl, (diskBlocks_spec h).pure fun _ => ?_⟩
  rintro _ _ _ _ ⟨rfl, rfl⟩
  refine ⟨rfl, ?_⟩
  rw [Bool.eq_iff_iff]; simp
theorem indexFits_spec {N : Fp} {G : FF} {p : Option Addr} {n c b r : Nat} {L : List Int} {D : DiskS} {H : Heap} (h : Is N H p n c L) (hd : DiskAt G H b D) {Tt : TypeId} {f : Nat × Nat} (hr : H[r]? = some (.cells #[.pointer (some ⟨b, 0, none⟩)] Tt f)) :
    HP Try.prog F.slices_IndexFunc_Sint_int [.int .i64] #[.slice p n c, .func (.func F.log_fits_1) #[] #[.pointer (some ⟨r, 0, none⟩)]] H fun x _ H' => H = H' ∧ decide (x ≥ 0) = !(L.all fun k => decide (k < D.is.length)) := by
  obtain rfl := h.len
  have hsm := h.small
  refine indexFits_vc p _ c r E H _ ⟨fun m i G' H' => 0 ≤ i ∧ i ≤ L.length ∧ m = (L.length - i).toNat ∧ E = G' ∧ H = H' ∧ (L.take i.toNat).all (fun k => decide (k < D.is.length)) = true, ⟨_, by omega, by omega, rfl, rfl, rfl, by simp⟩, ?_⟩
  rintro _ _ _ him i m ⟨i0, i1, rfl, rfl, rfl, ha⟩
  refine br_dec (fun hi => ⟨⟨i0, hi⟩, h.ld (i := i.toNat) (by omega) ((fits1_spec hd hr _).pure fun _ => ?_)⟩) fun hi => ⟨rfl, ?_⟩
  · rintro _ _ _ _ ⟨rfl, rfl⟩
    have hil : i.toNat < L.length := by omega
    refine br_not (br_intro (fun h1 => ?_) fun h1 => ⟨rfl, ?_⟩)
    · refine ⟨_, ?_, by rw [wrap_i64 (by omega) (by omega)]; omega, by rw [wrap_i64 (by omega) (by omega)]; omega, rfl, rfl, rfl, ?_⟩
      · rw [wrap_i64 (by omega) (by omega)]; simp only [ltK]; omega
      · rw [wrap_i64 (by omega) (by omega), show (i + 1).toNat = i.toNat + 1 by omega]
        exact all_tk hil ha h1
    · rw [all_bad hil h1, decide_eq_true i0]; rfl
  · have e : i.toNat = L.length := by omega
    rw [e, List.take_length] at ha
    rw [ha]; rfl
theorem containsFits_spec {N : Fp} {G : FF} {p : Option Addr} {n c b r : Nat} {L : List Int} {D : DiskS} {H : Heap} (h : Is N H p n c L) (hd : DiskAt G H b D) {Tt : TypeId} {f : Nat × Nat} (hr : H[r]? = some (.cells #[.pointer (some ⟨b, 0, none⟩)] Tt f)) :
    HP Try.prog F.slices_ContainsFunc_Sint_int [.bool] #[.slice p n c, .func (.func F.log_fits_1) #[] #[.pointer (some ⟨r, 0, none⟩)]] H fun x _ H' => H = H' ∧ x = !(L.all fun k => decide (k < D.is.length)) := by
  refine containsFits_vc p n c r E H _ ((indexFits_spec h hd hr).pure fun _ => ?_)
  rintro _ _ _ _ ⟨rfl, h⟩
  exact ⟨rfl, h⟩
def fitsB (k : Nat) (T : TxnS) : Bool := formB T.nums T.data && T.nums.all fun n => decide (n < k)
theorem logFits_spec {N : Fp} {G : FF} {b : Nat} {T : TxnS} {D : DiskS} {v : Value} {H : Heap} (h : TxnV N H v T) (hd : DiskAt G H b D) :
    HP Try.prog F.log_fits [.bool] #[.pointer (some ⟨b, 0, none⟩), v] H fun x _ _ => x = fitsB D.is.length T := by
  obtain ⟨p, n, c, q, m, mc, rfl, hI, hB⟩ := h
  refine logFits_vc _ _ E H _ (new_im fun H2 g2 n2 s2 => ⟨_, rfl, rfl, by simp [flat], fun G5 H6 s6 => ?_⟩)
  have hI6 := (hI.e.grow g2).ext s6.ext
  have hB6 := (hB.e.grow g2).ext s6.ext
  refine (txnFormed_spec hI6 hB6).pure fun _ => ?_
  rintro _ _ H9 g9 rfl
  unfold fitsB
  refine br_intro (fun h1 => ?_) fun h1 => by rw [h1]; rfl
  have hr : H9[H.size]? = some (.cells #[.pointer (some ⟨b, 0, none⟩)] Ash.T.P_disk_Disk (0, 0)) := g9.block (s6.ext.block n2 fun h => h.elim)
  refine ⟨_, _, _, rfl, (containsFits_spec (hI6.grow g9) (((hd.grow g2).away (away_e s6.ext)).grow g9) hr).pure fun _ => ?_⟩
  rintro _ _ _ _ ⟨rfl, rfl⟩
  rw [h1]; simp

/-! ## log.blocks -/
def logE (D : DiskS) : Int := if D.is.length < 64 then 1 else if D.down then 2 else 0
def logL (D : DiskS) : List Bytes := if logE D = 0 then (List.range 40).map fun i => D.is.getD (3 + i) [] else []
theorem bss_nil (N : Fp) (H : Heap) : Bss N H none 0 0 [] := ⟨Nat.le_refl _, rfl, by omega, [], .inl rfl, rfl, by simp⟩
theorem logBlocks_spec {G : FF} {b : Nat} {D : DiskS} {H : Heap} (hd : DiskAt G H b D) :
    HP Try.prog F.log_blocks [.sl, .int .i64] #[.pointer (some ⟨b, 0, none⟩)] H fun p n c e _ H' => e = logE D ∧ Bss (Upto H) H' p n c (logL D) := by
  refine logBlocks_vc _ E H _ ((logReady_spec hd).pure fun w0 => ?_)
  rintro _ _ _ _ ⟨rfl, rfl⟩
  refine br_not (br_dec (fun h64 => ?_) fun h64 => ?_)
  · refine ⟨fun m p n c i G' H' => 0 ≤ i ∧ i ≤ 40 ∧ m = (40 - i).toNat ∧ WF G' H' ∧ (∀ k, G'.w k → H.size ≤ k) ∧ (n : Int) = i ∧ (0 < i → D.down = false) ∧ ∃ vs, Own (notG G') T.S_uint8 1 H' p n c vs ∧ RowsS (NU H G') H' vs ((List.range i.toNat).map fun i => D.is.getD (3 + i) []),
      ⟨_, by omega, by omega, rfl, w0, fun _ h => h.elim, rfl, by omega, [], .nil _ _ _ _, by simp [RowsS]⟩, ?_⟩
    rintro _ G7 H8 im p9 n10 c11 i m ⟨i0, i1, rfl, w7, hw7, hni, hdn, vs, o8, r8⟩
    have hd8 := hd.away (away_e im.ext)
    refine br_dec (fun hi => ?_) fun hi => ?_
    · rw [wrap_i64 (n := 3 + i) (by omega) (by omega)]
      refine (diskRead_spec hd8 (3 + i)).pure fun _ => ?_
      rintro q m mc e _ H19 g19 ⟨rfl, rfl, o19⟩
      unfold diskReadR at o19 ⊢
      rw [if_neg (by omega)] at o19 ⊢
      cases hdd : D.down
      case true =>
        simp only [if_true, hdd]
        refine br_true rfl ?_
        have : logE D = 2 := by unfold logE; rw [if_neg (by omega), if_pos hdd]
        refine ⟨this.symm, ?_⟩
        unfold logL
        rw [if_neg (by rw [this]; decide)]
        exact bss_nil _ _
      case false =>
        rw [hdd, if_neg (by decide)] at o19
        rw [if_neg (by decide)]
        refine br_false rfl ?_
        obtain ⟨ii, hii, hiz, hib, his⟩ := info_ssl
        have hs8 : H.size ≤ H8.size := im.size
        have b19 := o19.bs.mono (up_nu (H := H) w7 hs8)
        refine pushU und_ssl hii hiz (by omega) his rfl (o8.grow g19) rfl (by omega) fun p' c' G' H' o' kp x' hw' _ w' => ?_
        have x2 := ext_nu (H := H) x' (by have := g19.1; omega)
        refine ⟨_, ?_, by rw [wrap_i64 (by omega) (by omega)]; omega, by rw [wrap_i64 (by omega) (by omega)]; omega, rfl, w', fun k hk => ?_, ?_, fun _ => rfl, _, o', ?_⟩
        · rw [wrap_i64 (by omega) (by omega)]; simp only [ltK]; omega
        · rcases hw' k hk with h1 | h1
          · exact hw7 k h1
          · exact Nat.le_trans (Nat.le_trans hs8 g19.1) h1
        · rw [wrap_i64 (by omega) (by omega)]; omega
        · rw [wrap_i64 (by omega) (by omega), show (i + 1).toNat = i.toNat + 1 by omega, List.range_succ, List.map_append, List.map_singleton, show 3 + i.toNat = (3 + i).toNat by omega]
          exact ((r8.ext ((g19.ext _).trans x2)).snoc (b19.ext x2))
    · have hi40 : i.toNat = 40 := by omega
      rw [hi40] at r8
      have hE : logE D = 0 := by unfold logE; rw [if_neg (by omega), if_neg (by rw [hdn (by omega)]; decide)]
      have hL : logL D = (List.range 40).map fun i => D.is.getD (3 + i) [] := by unfold logL; rw [if_pos hE]
      rw [hL]
      exact ⟨hE.symm, o8.cap, by simp; omega, by omega, vs, (o8.up hw7).toRow, r8.mono nu_up⟩
  · have : logE D = 1 := by unfold logE; rw [if_pos (by omega)]
    refine ⟨this.symm, ?_⟩
    unfold logL
    rw [if_neg (by rw [this]; decide)]
    exact bss_nil _ _
end Go.Proofs.Ash
