/-
  Parts of a proof: see the row.
-/
import Derived.Test.YtljdcbcjdlpbgaaKP
import Derived.Test.YtljdcbcjdlpbgaaLV
import Derived.Test.YtljdcbcjdlpbgaaV2Map
set_option linter.unusedVariables false
set_option linter.unusedSimpArgs false
open Go Go.Vc Go.V2 Go.Proofs
namespace Go.Proofs.Ash
set_option maxRecDepth 100000

/-! ## contracts of before, in the new form -/
theorem packPutP {N : Fp} {p : Option Addr} {n c : Nat} {xs : Bytes} {H : Heap} (h : Bs N H p n c xs) (hn : n ≤ 2 ^ 39) (x k : Int) :
    HP Try.prog F.pack_Put [.sl] #[.slice p n c, .int .u64 x, .int .i64 k] H fun q m mc _ H' => m = (putN xs x k).length ∧ OwnB (Upto H) T.uint8 H' q m mc (putN xs x k) :=
  HX.of_hc (packPut_spec h hn x k) fun _ v H' ⟨g, q, mc, hv, o⟩ => ⟨g, [_], hv, rfl, o⟩
theorem packGetP {N : Fp} {p : Option Addr} {n c : Nat} {xs : Bytes} {H : Heap} (h : Bs N H p n c xs) (a k : Int) :
    HP Try.prog F.pack_Get [.int .u64, .bool] #[.slice p n c, .int .i64 a, .int .i64 k] H fun x b _ H' => H = H' ∧ x = (getN xs a k).1 ∧ b = (getN xs a k).2 :=
  HX.of_hc (packGet_spec h a k) fun _ v H' hv => by
    obtain ⟨rfl, rfl⟩ := hv
    exact ⟨.refl _, [_, _], rfl, rfl, rfl, rfl⟩
theorem packSealP {N : Fp} {p : Option Addr} {n c : Nat} {xs : Bytes} {H : Heap} (h : Bs N H p n c xs) (hl : xs.length ≤ 252) :
    HP Try.prog F.pack_Seal [.sl, .int .i64] #[.slice p n c] H fun q m mc e _ H' => e = 0 ∧ m = (sealB xs).length ∧ OwnB (Upto H) T.uint8 H' q m mc (sealB xs) :=
  HX.of_hc (packSeal_spec h) fun _ v H' hv => by
    rw [if_pos hl] at hv
    obtain ⟨g, q, mc, rfl, o⟩ := hv
    exact ⟨g, [_, _], rfl, rfl, rfl, o⟩
theorem packOpenP {N : Fp} {p : Option Addr} {n c : Nat} {xs : Bytes} {H : Heap} (h : Bs N H p n c xs) :
    HP Try.prog F.pack_Open [.sl, .bool] #[.slice p n c] H fun q m mc b _ H' => b = sealed xs ∧ m = (openB xs).length ∧ OwnB (Upto H) T.uint8 H' q m mc (openB xs) :=
  HX.of_hc (packOpen_spec h) fun _ v H' hv => by
    obtain ⟨g, q, mc, rfl, o⟩ := hv
    exact ⟨g, [_, _], rfl, rfl, rfl, o⟩
theorem bytesEqualP {N M : Fp} {p q : Option Addr} {n c m mc : Nat} {xs ys : Bytes} {H : Heap} (h : Bs N H p n c xs) (k : Bs M H q m mc ys) :
    HP Try.prog F.bytes_Equal [.bool] #[.slice p n c, .slice q m mc] H fun b _ H' => H = H' ∧ b = (xs == ys) :=
  HX.of_hc (bytesEqual_spec h k) fun _ v H' hv => by
    obtain ⟨rfl, rfl⟩ := hv
    exact ⟨.refl _, [_], rfl, rfl, rfl⟩
theorem hasPrefixP {N M : Fp} {p q : Option Addr} {n c m mc : Nat} {xs ys : Bytes} {H : Heap} (h : Bs N H p n c xs) (k : Bs M H q m mc ys) :
    HP Try.prog F.bytes_HasPrefix [.bool] #[.slice p n c, .slice q m mc] H fun b _ H' => H = H' ∧ b = (decide (m ≤ n) && xs.take m == ys) :=
  HX.of_hc (hasPrefix_spec h k) fun _ v H' hv => by
    obtain ⟨rfl, rfl⟩ := hv
    exact ⟨.refl _, [_], rfl, rfl, rfl⟩
theorem _root_.Go.Vc.Bs.e {N : Fp} {H : Heap} {p : Option Addr} {n c : Nat} {xs : Bytes} (h : Bs N H p n c xs) : Bs E.x H p n c xs := h.mono fun _ _ _ h => h.elim
/-- []byte("..") -/
theorem litB {xs : Bytes} {G : FF} {H : Heap} {K : Option Addr → Nat → Nat → FF → Heap → Prop} (hs : xs.length ≤ 2 ^ 40)
    (k : ∀ H', Grow H H' → Bs E.x H' (some ⟨H.size, 0, none⟩) xs.length xs.length xs → K (some ⟨H.size, 0, none⟩) xs.length xs.length (G.add H.size) H') :
    newK (.cells (xs.map byteV).toArray 5 (0, 0)) H fun r H2 => stepX G H H2 fun G3 => cvV Try.prog T.S_uint8 T.S_uint8 (.slice (some ⟨r, 0, none⟩) xs.length xs.length) H2 fun v H5 =>
      ∃ p n c, v = Value.slice p n c ∧ stepX G3 H2 H5 fun G9 => K p n c G9 H5 := by
  refine new_own fun H2 g2 n2 s2 => cvV_bb und_bytes (show Try.prog.underlying T.uint8 = some (.int .u8) by kernel_rfl) n2 fun H' s o e => ⟨_, _, _, rfl, ?_⟩
  obtain ⟨f', e, hf⟩ := e
  have g : Grow H H' := ⟨by omega, fun i hi => by rw [o i (by omega), g2.2 i hi]⟩
  refine stepX_own (FF.add_w _ _) s o (k H' g ⟨Nat.le_refl _, by simp, hs, .inr ⟨H.size, 0, rfl, fun h => h.elim, fun i v hv => ?_⟩⟩)
  rw [Nat.zero_add, hcell_cells e]; simpa using hv

/-! ## rows of numbers -/
def intV (n : Int) : Value := .int .i64 n
structure Is (N : Fp) (H : Heap) (p : Option Addr) (n c : Nat) (L : List Int) : Prop where
  cap : n ≤ c
  len : L.length = n
  small : n ≤ 2 ^ 40
  row : Row N H p (L.map intV)
theorem Is.ext {N N' : Fp} {H H' : Heap} {p n c L} (h : Is N H p n c L) (x : Ext N H N' H') : Is N' H' p n c L := ⟨h.cap, h.len, h.small, h.row.ext x⟩
theorem Is.grow {N : Fp} {H H' : Heap} {p n c L} (h : Is N H p n c L) (g : Grow H H') : Is N H' p n c L := ⟨h.cap, h.len, h.small, h.row.grow g⟩
theorem Is.mono {N N' : Fp} {H : Heap} {p n c L} (h : Is N H p n c L) (x : ∀ k, k < H.size → ¬ N k → ¬ N' k) : Is N' H p n c L := ⟨h.cap, h.len, h.small, h.row.mono x⟩
theorem Is.e {N : Fp} {H : Heap} {p n c L} (h : Is N H p n c L) : Is E.x H p n c L := h.mono fun _ _ _ h => h.elim
theorem Is.ld {N : Fp} {H : Heap} {p n c L} (h : Is N H p n c L) {i : Nat} (hi : i < n) {K : Int → Prop} (hk : K (L.getD i 0)) : ptrK p fun b o => ldInt .i64 ⟨b, o + i * 1, none⟩ H K := by
  refine h.row.ld (i := i * 1) (v := intV (L.getD i 0)) ?_ fun b o _ _ hc => ⟨_, hc, hk⟩
  have : i < L.length := by rw [h.len]; exact hi
  simp [List.getD_eq_getElem?_getD, this]
def OwnI (N : Fp) (H : Heap) (p : Option Addr) (n c : Nat) (L : List Int) : Prop := Own N T.int 1 H p n c (L.map intV) ∧ n ≤ 2 ^ 40
theorem OwnI.is {N : Fp} {H : Heap} {p n c L} (h : OwnI N H p n c L) : Is N H p n c L := ⟨h.1.cap, by have := h.1.1; simpa using this, h.2, h.1.toRow⟩

/-! ## txn.numbered -/
def numB (L : List Int) : Bool := decide (L.Nodup) && L.all (fun n => decide (0 ≤ n ∧ n < 768)) && decide (L.length ≤ 37)
theorem und_mib : Try.prog.underlying T.M_int_bool = some (.map T.int T.bool) := by kernel_rfl
theorem take_succ_getD (L : List Int) {i : Nat} (h : i < L.length) : L.take (i + 1) = L.take i ++ [L.getD i 0] := by
  rw [List.take_succ_eq_append_getElem h, List.getD_eq_getElem?_getD, List.getElem?_eq_getElem h]; rfl
theorem look_true (S : List Int) (k : Int) : mlook (S.map fun k => (k, Value.bool true)) k = if k ∈ S then some (.bool true) else none := by
  induction S with
  | nil => rfl
  | cons a S ih =>
    unfold mlook at ih ⊢
    simp only [List.map_cons, List.find?_cons]
    by_cases h : a = k
    · subst h; simp
    · have : (a == k) = false := by simpa using h
      rw [this]
      simp only [List.mem_cons]
      rw [ih]
      have hk : ¬ k = a := fun e => h e.symm
      simp [hk]
theorem numbered_spec {N : Fp} {p : Option Addr} {n c : Nat} {L : List Int} {H : Heap} (h : Is N H p n c L) : HP Try.prog F.txn_numbered [.bool] #[.slice p n c] H fun b _ _ => b = numB L := by
  obtain rfl := h.len
  have hsm := h.small
  refine txnNumbered_vc p _ c E H _ (new_own fun H2 g2 n2 s2 => ⟨fun m i G' H' => 0 ≤ i ∧ i ≤ L.length ∧ m = (L.length - i).toNat ∧ E.add H.size = G' ∧ MapAt H' H.size ((L.take i.toNat).map fun k => (k, .bool true)) ∧ (L.take i.toNat).Nodup ∧ ∀ k ∈ L.take i.toNat, 0 ≤ k ∧ k < 768,
    ⟨_, by omega, by omega, rfl, rfl, by simpa using MapAt.new n2, by simp, by simp⟩, ?_⟩)
  rintro _ _ H8 him i m ⟨i0, i1, rfl, rfl, hm, hnd, hrg⟩
  have h2 : Is (E.add H.size).x H2 p L.length c L := (h.e).ext ⟨g2.1, fun k hk _ => g2.2 k hk, fun k hk => hk.imp id fun e => by omega⟩
  have h8 := h2.ext him.ext
  refine br_dec (fun hi => ⟨⟨i0, hi⟩, h8.ld (i := i.toNat) (by omega) ?_⟩) fun hi => ?_
  · have hil : i.toNat < L.length := by omega
    have hmem : L.getD i.toNat 0 ∈ L := by rw [List.getD_eq_getElem?_getD, List.getElem?_eq_getElem hil]; exact List.getElem_mem _
    have bad : ¬ (0 ≤ L.getD i.toNat 0 ∧ L.getD i.toNat 0 < 768) → false = numB L := fun hb => by
      unfold numB
      have : L.all (fun n => decide (0 ≤ n ∧ n < 768)) = false := by
        rw [List.all_eq_false]; exact ⟨_, hmem, by simpa using hb⟩
      rw [this]; simp
    refine br_dec (fun h1 => bad (by omega)) fun h1 => br_dec (fun h2 => bad (by omega)) fun h2 => mapK_at hm (fun v hv => ?_) fun hv => ?_
    · rw [look_true] at hv
      split at hv
      · rename_i hin
        injection hv with hv
        subst hv
        refine ⟨true, rfl, br_true rfl ?_⟩
        show false = numB L
        unfold numB
        have : ¬ L.Nodup := fun hh => by
          have h3 : (L.take (i.toNat + 1)).Nodup := hh.sublist (List.take_sublist _ _)
          rw [take_succ_getD L hil, List.nodup_append] at h3
          exact h3.2.2 _ hin _ (by simp) rfl
        rw [decide_eq_false this]; simp
      · cases hv
    · refine muV_at und_mib und_int hm fun H9 s9 o9 m9 => stepX_own (FF.add_w _ _) s9 o9 ⟨_, ?_, by rw [wrap_i64 (by omega) (by omega)]; omega, by rw [wrap_i64 (by omega) (by omega)]; omega, rfl, rfl, ?_⟩
      · rw [wrap_i64 (by omega) (by omega)]; simp only [ltK]; omega
      · rw [wrap_i64 (by omega) (by omega), show (i + 1).toNat = i.toNat + 1 by omega, take_succ_getD L hil]
        rw [mupd_keys_new hv] at m9
        have hni : L.getD i.toNat 0 ∉ L.take i.toNat := fun hin => by rw [look_true, if_pos hin] at hv; cases hv
        refine ⟨by simpa using m9, ?_, fun k hk => ?_⟩
        · rw [List.nodup_append]
          refine ⟨hnd, by simp, fun a ha b hb => ?_⟩
          simp only [List.mem_singleton] at hb
          subst hb
          rintro rfl
          exact hni ha
        · rcases List.mem_append.1 hk with hk | hk
          · exact hrg k hk
          · simp only [List.mem_singleton] at hk; subst hk; omega
  · have e : i.toNat = L.length := by omega
    rw [e, List.take_length] at hnd hrg
    show decide _ = numB L
    unfold numB
    have : L.all (fun n => decide (0 ≤ n ∧ n < 768)) = true := by rw [List.all_eq_true]; exact fun k hk => by simpa using hrg k hk
    rw [this, decide_eq_true hnd]
    simp only [Bool.true_and, Bool.and_true, decide_eq_decide]; omega
end Go.Proofs.Ash
