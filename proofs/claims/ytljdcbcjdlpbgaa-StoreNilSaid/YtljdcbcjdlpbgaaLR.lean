/-
  Parts of a proof: see the row.
-/
import Derived.Test.YtljdcbcjdlpbgaaLQ
set_option linter.unusedVariables false
set_option linter.unusedSimpArgs false
open Go Go.Vc Go.V2 Go.Proofs
namespace Go.Proofs.Ash
set_option maxRecDepth 100000

/-! ## txn.head, txn.end -/
def jrnl : Bytes := [106, 114, 110, 108]
def doneB : Bytes := [100, 111, 110, 101]
def putL (b : Bytes) (L : List Int) : Bytes := L.foldl (fun b x => putN b (IntKind.wrap .u64 x) 2) b
def headB (s : Int) (L : List Int) : Bytes := sealB (putL (putN (putN jrnl (IntKind.wrap .u64 s) 4) (IntKind.wrap .u64 (L.length : Int)) 2) L)
def endB (s : Int) : Bytes := sealB (putN doneB (IntKind.wrap .u64 s) 4)
theorem putN_length {b : Bytes} {x k : Int} (h : 1 ≤ k) (h2 : k ≤ 8) : (putN b x k).length = b.length + k.toNat := by
  unfold putN
  rw [if_neg (by omega), List.length_append, le_length]
theorem putL_length (L : List Int) : ∀ b : Bytes, (putL b L).length = b.length + 2 * L.length := by
  induction L with
  | nil => intro b; rfl
  | cons x L ih =>
    intro b
    show (putL (putN b (IntKind.wrap .u64 x) 2) L).length = _
    rw [ih, putN_length (by omega) (by omega), List.length_cons]
    omega
theorem putL_snoc (b : Bytes) (L : List Int) (x : Int) : putL b (L ++ [x]) = putN (putL b L) (IntKind.wrap .u64 x) 2 := by simp [putL, List.foldl_append]
theorem OwnB.e' {H H' : Heap} {e : TypeId} {p : Option Addr} {n c : Nat} {xs : Bytes} (o : OwnB (Upto H) e H' p n c xs) : Bs E.x H' p n c xs := o.bs.mono fun _ _ _ h => h.elim
theorem up_trans {H H1 H2 : Heap} (g : Grow H H1) {e : TypeId} {p : Option Addr} {n c : Nat} {xs : Bytes} (o : OwnB (Upto H1) e H2 p n c xs) : OwnB (Upto H) e H2 p n c xs := o.mono fun a _ hn hc => hn (Nat.lt_of_lt_of_le hc g.1)
theorem txnEnd_spec (s : Int) (H : Heap) : HP Try.prog F.txn_end [.sl] #[.int .u32 s] H fun q m mc _ H' => m = 256 ∧ OwnB (Upto H) T.uint8 H' q m mc (endB s) := by
  refine txnEnd_vc s E H _ (litB (xs := doneB) (by simp [doneB]) fun H1 g1 b1 => (packPutP b1 (by simp [doneB]) _ _).pure fun _ => ?_)
  rintro q m mc _ H2 g2 ⟨hm, o2⟩
  have hl : (putN doneB (IntKind.wrap .u64 s) 4).length = 8 := putN_length (by omega) (by omega)
  refine (packSealP o2.bs (by omega)).pure fun _ => ?_
  rintro q m mc e _ H3 g3 ⟨rfl, rfl, o3⟩
  exact ⟨sealB_length (by omega), up_trans (g1.trans g2) o3⟩
theorem txnHead_spec {N : Fp} {p : Option Addr} {n c : Nat} {L : List Int} {H : Heap} (h : Is N H p n c L) (hn : L.length ≤ 37) (s : Int) :
    HP Try.prog F.txn_head [.sl] #[.int .u32 s, .slice p n c] H fun q m mc _ H' => m = 256 ∧ OwnB (Upto H) T.uint8 H' q m mc (headB s L) := by
  obtain rfl := h.len
  refine txnHead_vc s p _ c E H _ (litB (xs := jrnl) (by simp [jrnl]) fun H1 g1 b1 => (packPutP b1 (by simp [jrnl]) _ _).pure fun _ => ?_)
  rintro q2 m2 mc2 _ H2 g2 ⟨hm2, o2⟩
  have hl2 : (putN jrnl (IntKind.wrap .u64 s) 4).length = 8 := putN_length (by omega) (by omega)
  refine (packPutP o2.bs (by omega) _ _).pure fun _ => ?_
  rintro q3 m3 mc3 _ H3 g3 ⟨hm3, o3⟩
  have hl3 : (putN (putN jrnl (IntKind.wrap .u64 s) 4) (IntKind.wrap .u64 (L.length : Int)) 2).length = 10 := by rw [putN_length (by omega) (by omega)]; omega
  have g13 := (g1.trans g2).trans g3
  generalize hb0 : putN (putN jrnl (IntKind.wrap .u64 s) 4) (IntKind.wrap .u64 (L.length : Int)) 2 = b0 at hl3 o3 hm3
  refine ⟨fun m p n c i G' H' => 0 ≤ i ∧ i ≤ L.length ∧ m = (L.length - i).toNat ∧ E.add H.size = G' ∧ Grow H3 H' ∧ n = (putL b0 (L.take i.toNat)).length ∧ OwnB (Upto H) T.uint8 H' p n c (putL b0 (L.take i.toNat)), ⟨_, by omega, by omega, rfl, rfl, .refl _, by simpa [putL] using hm3, by simpa [putL] using up_trans (g1.trans g2) o3⟩, ?_⟩
  rintro _ _ H4 _ p4 n4 c4 i m ⟨i0, i1, rfl, rfl, g4, hn4, o4⟩
  have h4 := h.grow (g13.trans g4)
  have hlen : ∀ k, (putL b0 (L.take k)).length ≤ 10 + 2 * L.length := fun k => by rw [putL_length, hl3, List.length_take]; omega
  refine br_dec (fun hi => ⟨⟨i0, hi⟩, h4.ld (i := i.toNat) (by omega) ?_⟩) fun hi => ?_
  · refine (packPutP o4.bs (by have := hlen i.toNat; omega) _ _).pure fun _ => ?_
    rintro q5 m5 mc5 _ H5 g5 ⟨hm5, o5⟩
    refine ⟨_, ?_, by rw [wrap_i64 (by omega) (by omega)]; omega, by rw [wrap_i64 (by omega) (by omega)]; omega, rfl, rfl, g4.trans g5, ?_, ?_⟩
    · rw [wrap_i64 (by omega) (by omega)]; simp only [ltK]; omega
    · rw [wrap_i64 (by omega) (by omega), show (i + 1).toNat = i.toNat + 1 by omega, take_succ_getD L (by omega), putL_snoc]; exact hm5
    · rw [wrap_i64 (by omega) (by omega), show (i + 1).toNat = i.toNat + 1 by omega, take_succ_getD L (by omega), putL_snoc]; exact up_trans (g13.trans g4) o5
  · have e : i.toNat = L.length := by omega
    rw [e, List.take_length] at hn4 o4
    have hll := hlen L.length
    rw [List.take_length] at hll
    refine (packSealP o4.bs (by omega)).pure fun _ => ?_
    rintro q6 m6 mc6 e6 _ H6 g6 ⟨rfl, rfl, o6⟩
    subst hb0
    exact ⟨sealB_length (by omega), up_trans (g13.trans g4) o6⟩
end Go.Proofs.Ash
