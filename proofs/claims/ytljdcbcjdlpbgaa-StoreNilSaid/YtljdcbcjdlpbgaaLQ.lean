/-
  Parts of a proof: see the row.
-/
import Derived.Test.YtljdcbcjdlpbgaaLP
set_option linter.unusedVariables false
set_option linter.unusedSimpArgs false
open Go Go.Vc Go.V2 Go.Proofs
namespace Go.Proofs.Ash
set_option maxRecDepth 100000

/-! ## rows of slices of bytes -/
def RowsS (N : Fp) (H : Heap) (vs : List Value) (L : List Bytes) : Prop := vs.length = L.length ∧ ∀ i, i < L.length → ∃ q m mc, vs[i]? = some (.slice q m mc) ∧ Bs N H q m mc (L.getD i [])
theorem RowsS.ext {N N' : Fp} {H H' : Heap} {vs : List Value} {L : List Bytes} (h : RowsS N H vs L) (x : Ext N H N' H') : RowsS N' H' vs L :=
  ⟨h.1, fun i hi => by obtain ⟨q, m, mc, h1, h2⟩ := h.2 i hi; exact ⟨q, m, mc, h1, h2.ext x⟩⟩
theorem RowsS.mono {N N' : Fp} {H : Heap} {vs : List Value} {L : List Bytes} (h : RowsS N H vs L) (x : ∀ k, k < H.size → ¬ N k → ¬ N' k) : RowsS N' H vs L :=
  ⟨h.1, fun i hi => by obtain ⟨q, m, mc, h1, h2⟩ := h.2 i hi; exact ⟨q, m, mc, h1, h2.mono x⟩⟩
structure Bss (N : Fp) (H : Heap) (p : Option Addr) (n c : Nat) (L : List Bytes) : Prop where
  cap : n ≤ c
  len : L.length = n
  small : n ≤ 2 ^ 40
  rows : ∃ vs, Row N H p vs ∧ RowsS N H vs L
theorem Bss.ext {N N' : Fp} {H H' : Heap} {p n c L} (h : Bss N H p n c L) (x : Ext N H N' H') : Bss N' H' p n c L :=
  ⟨h.cap, h.len, h.small, by obtain ⟨vs, h1, h2⟩ := h.rows; exact ⟨vs, h1.ext x, h2.ext x⟩⟩
theorem Bss.grow {N : Fp} {H H' : Heap} {p n c L} (h : Bss N H p n c L) (g : Grow H H') : Bss N H' p n c L := h.ext (g.ext N)
theorem Bss.mono {N N' : Fp} {H : Heap} {p n c L} (h : Bss N H p n c L) (x : ∀ k, k < H.size → ¬ N k → ¬ N' k) : Bss N' H p n c L :=
  ⟨h.cap, h.len, h.small, by obtain ⟨vs, h1, h2⟩ := h.rows; exact ⟨vs, h1.mono x, h2.mono x⟩⟩
theorem Bss.e {N : Fp} {H : Heap} {p n c L} (h : Bss N H p n c L) : Bss E.x H p n c L := h.mono fun _ _ _ h => h.elim
theorem Bss.ld {N : Fp} {H : Heap} {p n c L} (h : Bss N H p n c L) {i : Nat} (hi : i < n) {K : Option Addr → Nat → Nat → Prop} (hk : ∀ q m mc, Bs N H q m mc (L.getD i []) → K q m mc) : ptrK p fun b o => ldSl ⟨b, o + i * 1, none⟩ H K := by
  obtain ⟨vs, h1, h2⟩ := h.rows
  obtain ⟨q, m, mc, h3, h4⟩ := h2.2 i (by rw [h.len]; exact hi)
  exact h1.ld (i := i * 1) (v := .slice q m mc) (by simpa using h3) fun bb oo _ _ hc => ⟨_, _, _, hc, hk _ _ _ h4⟩

/-! ## txn.Formed -/
def formB (L : List Int) (D : List Bytes) : Bool := numB L && (decide (D.length = L.length) && D.all fun b => b.length == 256)
theorem form1_spec {N : Fp} {p : Option Addr} {n c : Nat} {xs : Bytes} {H : Heap} (h : Bs N H p n c xs) : HP Try.prog F.txn_Formed_1 [.bool] #[.slice p n c] H fun b _ H' => H = H' ∧ b = !(xs.length == 256) := by
  have hl := h.len
  refine form1_vc p n c E H _ ⟨rfl, ?_⟩
  rw [Bool.eq_iff_iff]; simp; omega
theorem all_tk {α : Type} {D : List α} {f : α → Bool} {i : Nat} {d : α} (h : i < D.length) (h1 : (D.take i).all f = true) (h2 : f (D.getD i d) = true) : (D.take (i + 1)).all f = true := by
  have e : D.take (i + 1) = D.take i ++ [D.getD i d] := by rw [List.take_succ_eq_append_getElem h, List.getD_eq_getElem?_getD, List.getElem?_eq_getElem h]; rfl
  rw [e, List.all_append, h1]; simpa using h2
theorem all_bad {α : Type} {D : List α} {f : α → Bool} {i : Nat} {d : α} (h : i < D.length) (h2 : f (D.getD i d) = false) : D.all f = false := by
  rw [List.all_eq_false]
  refine ⟨_, List.getElem_mem h, ?_⟩
  rw [List.getD_eq_getElem?_getD, List.getElem?_eq_getElem h] at h2
  simpa using h2
theorem indexForm_spec {N : Fp} {p : Option Addr} {n c : Nat} {L : List Bytes} {H : Heap} (h : Bss N H p n c L) :
    HP Try.prog F.slices_IndexFunc_SSbyte_Sbyte [.int .i64] #[.slice p n c, .func (.func F.txn_Formed_1) #[] #[]] H fun x _ H' => H = H' ∧ decide (x ≥ 0) = !(L.all fun b => b.length == 256) := by
  obtain rfl := h.len
  have hsm := h.small
  refine indexForm_vc p _ c E H _ ⟨fun m i G' H' => 0 ≤ i ∧ i ≤ L.length ∧ m = (L.length - i).toNat ∧ E = G' ∧ H = H' ∧ (L.take i.toNat).all (fun b => b.length == 256) = true, ⟨_, by omega, by omega, rfl, rfl, rfl, by simp⟩, ?_⟩
  rintro _ _ _ him i m ⟨i0, i1, rfl, rfl, rfl, ha⟩
  refine br_dec (fun hi => ⟨⟨i0, hi⟩, h.ld (i := i.toNat) (by omega) fun q m mc hb => (form1_spec hb).pure fun _ => ?_⟩) fun hi => ⟨rfl, ?_⟩
  · rintro _ _ _ _ ⟨rfl, rfl⟩
    have hil : i.toNat < L.length := by omega
    refine br_not (br_intro (fun h1 => ?_) fun h1 => ⟨rfl, ?_⟩)
    · refine ⟨_, ?_, by rw [wrap_i64 (by omega) (by omega)]; omega, by rw [wrap_i64 (by omega) (by omega)]; omega, rfl, rfl, rfl, ?_⟩
      · rw [wrap_i64 (by omega) (by omega)]; simp only [ltK]; omega
      · rw [wrap_i64 (by omega) (by omega), show (i + 1).toNat = i.toNat + 1 by omega]
        exact all_tk hil ha h1
    · rw [all_bad hil h1, decide_eq_true i0]; rfl
  · have e : i.toNat = L.length := by omega
    rw [e, List.take_length] at ha
    rw [ha]; rfl
theorem containsForm_spec {N : Fp} {p : Option Addr} {n c : Nat} {L : List Bytes} {H : Heap} (h : Bss N H p n c L) :
    HP Try.prog F.slices_ContainsFunc_SSbyte_Sbyte [.bool] #[.slice p n c, .func (.func F.txn_Formed_1) #[] #[]] H fun b _ H' => H = H' ∧ b = !(L.all fun b => b.length == 256) := by
  refine containsForm_vc p n c E H _ ((indexForm_spec h).pure fun _ => ?_)
  rintro _ _ _ _ ⟨rfl, h⟩
  exact ⟨rfl, h⟩
theorem txnFormed_spec {N M : Fp} {s : Int} {p q : Option Addr} {n c m mc : Nat} {L : List Int} {D : List Bytes} {H : Heap} (h : Is N H p n c L) (k : Bss M H q m mc D) :
    HP Try.prog F.txn_Formed [.bool] #[.agg #[.int .u32 s, .slice p n c, .slice q m mc]] H fun b _ _ => b = formB L D := by
  have hl := h.len
  have kl := k.len
  refine txnFormed_vc _ E H _ ⟨_, rfl, rfl, by simp [flat], _, _, _, rfl, ?_⟩
  intro G5 H6 s5
  refine (numbered_spec (h.e.ext s5.ext)).pure fun _ => ?_
  rintro _ _ H9 g9 rfl
  unfold formB
  refine br_intro (fun h1 => ?_) fun h1 => by rw [h1]; rfl
  refine ⟨_, _, _, rfl, _, _, _, rfl, ?_⟩
  rw [h1, Bool.true_and]
  refine br_beq (fun h2 => ⟨_, _, _, rfl, (containsForm_spec ((k.e.ext s5.ext).grow g9)).pure fun _ => ?_⟩) fun h2 => ?_
  · rintro _ _ _ _ ⟨rfl, rfl⟩
    rw [decide_eq_true (by omega)]; simp
  · rw [decide_eq_false (by omega)]; rfl
end Go.Proofs.Ash
