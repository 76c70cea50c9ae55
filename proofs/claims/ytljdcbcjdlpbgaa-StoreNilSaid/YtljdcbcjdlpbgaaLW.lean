/-
  Parts of a proof: see the row.
-/
import Derived.Test.YtljdcbcjdlpbgaaLU
set_option linter.unusedVariables false
set_option linter.unusedSimpArgs false
open Go Go.Vc Go.V2 Go.Proofs
namespace Go.Proofs.Ash
set_option maxRecDepth 100000

/-! ## log.Read, log.Recover -/
def readL (D : DiskS) : Option TxnS := match unpackL (logL D) with
  | none => none
  | some T => if fitsB D.is.length T then some T else none
def ReadR (H : Heap) (D : DiskS) (v : Value) (b : Bool) (e : Int) (H' : Heap) : Prop := e = logE D ∧ UnpR H (if logE D = 0 then readL D else none) v b H'
theorem logRead_spec {G : FF} {b : Nat} {D : DiskS} {H : Heap} (hd : DiskAt G H b D) :
    HP Try.prog F.log_Read [.any, .bool, .int .i64] #[.pointer (some ⟨b, 0, none⟩)] H fun v x e _ H' => ReadR H D v x e H' := by
  have bad : (if logE D = 0 then readL D else none) = none → ∀ (G8 : FF) (H9 : Heap), agA (.agg #[.int .u32 0, .slice none 0 0, .slice none 0 0]) 3 fun (cs10 : Array Value) => ∀ (G11 : FF) (H12 : Heap), Sto G8 H9 G11 H12 → ReadR H D (.agg cs10) false (logE D) H12 := fun hb _ _ => by
    refine ⟨_, rfl, rfl, by simp [flat], fun _ _ _ => ⟨rfl, ?_⟩⟩
    rw [hb]; exact ⟨rfl, rfl⟩
  refine logRead_vc _ E H _ fun G1 H2 s1 => ?_
  have hd2 := hd.away (away_e s1.ext)
  refine (logBlocks_spec hd2).pure fun w1 => ?_
  rintro p n c _ _ H8 g8 ⟨rfl, hB⟩
  refine br_bne (fun h1 => bad (if_neg h1) _ _) fun h1 => ?_
  have h1 : logE D = 0 := h1
  rw [h1] at bad
  rw [if_pos rfl] at bad
  refine (txnUnpack_spec hB).pure fun _ => ?_
  intro v x _ H15 g15 hu
  unfold UnpR at hu
  split at hu
  · rename_i hul
    obtain ⟨rfl, rfl⟩ := hu
    refine ⟨_, rfl, rfl, by simp [flat], br_true rfl (bad ?_ _ _)⟩
    unfold readL; rw [hul]
  · rename_i T hul
    obtain ⟨rfl, hT⟩ := hu
    obtain ⟨p1, n1, c1, q1, m1, mc1, rfl, hI, hD⟩ := hT
    refine ⟨_, rfl, rfl, by simp [flat], br_false rfl fun G20 H21 s21 => ?_⟩
    have hs2 : H.size ≤ H2.size := s1.size
    have e21 := ext_nu (H := H) s21.ext (by have := g8.1; have := g15.1; omega)
    have w15 : WF G1 H8 := g8.wf w1
    have hI21 := (hI.mono (up_nu (H := H) w15 (by have := g8.1; omega))).ext e21
    have hD21 := (hD.mono (up_nu (H := H) w15 (by have := g8.1; omega))).ext e21
    have hd21 := hd.away (away_e (((s1.ext.trans (g8.ext _)).trans (g15.ext _)).trans s21.ext))
    refine (logFits_spec (T := T) ⟨p1, n1, c1, q1, m1, mc1, rfl, hI21, hD21⟩ hd21).pure fun _ => ?_
    rintro _ _ H24 g24 rfl
    have hr : readL D = if fitsB D.is.length T then some T else none := by unfold readL; rw [hul]
    refine br_not (br_intro (fun hf => ?_) fun hf => bad (by rw [hr, hf]; rfl) _ _)
    refine ⟨_, rfl, rfl, by simp [flat], fun G29 H30 s30 => ⟨h1.symm, ?_⟩⟩
    rw [h1, if_pos rfl, hr, hf]
    have e30 := (g24.ext (NU H G20)).trans (ext_nu s30.ext (by have := g8.1; have := g15.1; have := s21.size; have := g24.1; omega))
    exact ⟨rfl, p1, n1, c1, q1, m1, mc1, rfl, (hI21.ext e30).mono nu_up, (hD21.ext e30).mono nu_up⟩
def seqL (D : DiskS) : Int := match beginL (logL D) with | none => 0 | some (s, _) => s
/-- of a journal that has no change -/
theorem logRecover_none {G : FF} {b : Nat} {D : DiskS} {H : Heap} (hd : DiskAt G H b D) (hn : readL D = none) :
    HP Try.prog F.log_Recover [.int .u32, .int .i64] #[.pointer (some ⟨b, 0, none⟩)] H fun s e _ _ => e = logE D ∧ (e = 0 → s = IntKind.wrap .u32 (seqL D + 1)) := by
  refine logRecover_vc _ E H _ ((logBlocks_spec hd).pure fun w1 => ?_)
  rintro p n c _ _ H6 g6 ⟨rfl, hB⟩
  refine br_bne (fun h1 => ⟨rfl, fun h => absurd h h1⟩) fun h1 => ?_
  have h1 : logE D = 0 := h1
  refine (logRead_spec (hd.grow g6)).pure fun _ => ?_
  rintro v x e _ H11 g11 ⟨rfl, hu⟩
  rw [if_pos h1, hn] at hu
  obtain ⟨rfl, rfl⟩ := hu
  refine ⟨_, rfl, rfl, by simp [flat], br_false rfl fun G25 H26 s26 => ?_⟩
  refine (txnSeq_spec (((hB.grow g11).e).ext s26.ext)).pure fun _ => ?_
  intro s b' _ H' g' hs
  refine ⟨h1.symm, fun _ => ?_⟩
  unfold seqL
  split at hs <;> (rename_i hb; rw [hb]; cases hs; rfl)
theorem logReady_nil (H : Heap) : HP Try.prog F.log_ready [.bool] #[.pointer none] H fun b _ H' => H = H' ∧ b = false := by
  refine logReady_vc none E H _ ((diskBlocks_nil H).pure fun _ => ?_)
  rintro _ _ _ _ ⟨rfl, rfl⟩
  exact ⟨rfl, rfl⟩
theorem logBlocks_nil (H : Heap) : HP Try.prog F.log_blocks [.sl, .int .i64] #[.pointer none] H fun _ _ _ e _ H' => H = H' ∧ e = 1 := by
  refine logBlocks_vc none E H _ ((logReady_nil H).pure fun _ => ?_)
  rintro _ _ _ _ ⟨rfl, rfl⟩
  exact br_true rfl ⟨rfl, rfl⟩
theorem logRecover_nil (H : Heap) : HP Try.prog F.log_Recover [.int .u32, .int .i64] #[.pointer none] H fun s e _ H' => H = H' ∧ s = 0 ∧ e = 1 := by
  refine logRecover_vc none E H _ ((logBlocks_nil H).pure fun _ => ?_)
  rintro _ _ _ _ _ _ _ ⟨rfl, rfl⟩
  exact br_true rfl ⟨rfl, rfl, rfl⟩
end Go.Proofs.Ash
