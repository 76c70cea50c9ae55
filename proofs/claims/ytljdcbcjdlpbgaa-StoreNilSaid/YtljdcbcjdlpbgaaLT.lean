/-
  Parts of a proof: see the row.
-/
import Derived.Test.YtljdcbcjdlpbgaaLS
set_option linter.unusedVariables false
set_option linter.unusedSimpArgs false
open Go Go.Vc Go.V2 Go.Proofs
namespace Go.Proofs.Ash
set_option maxRecDepth 100000

theorem RowsS.part {N : Fp} {H : Heap} {vs : List Value} {L : List Bytes} (h : RowsS N H vs L) {lo hi : Nat} (h1 : lo ≤ hi) (h2 : hi ≤ L.length) : RowsS N H ((vs.take (hi * 1)).drop (lo * 1)) ((L.take hi).drop lo) := by
  have hl := h.1
  refine ⟨by simp; omega, fun i hii => ?_⟩
  simp only [List.length_drop, List.length_take] at hii
  obtain ⟨q, m, mc, h3, h4⟩ := h.2 (lo + i) (by omega)
  refine ⟨q, m, mc, ?_, ?_⟩
  · rw [Nat.mul_one, Nat.mul_one, List.getElem?_drop, List.getElem?_take_of_lt (by omega)]; exact h3
  · rw [List.getD_eq_getElem?_getD, List.getElem?_drop, List.getElem?_take_of_lt (by omega), ← List.getD_eq_getElem?_getD]; exact h4
theorem Bss.part {N : Fp} {H : Heap} {p n c L} (h : Bss N H p n c L) {lo hi : Nat} (h1 : lo ≤ hi) (h2 : hi ≤ n) : Bss N H (slAt p lo c 1) (hi - lo) (c - lo) ((L.take hi).drop lo) :=
  ⟨by have := h.cap; omega, by simp [h.len]; omega, by have := h.small; omega, by
    obtain ⟨vs, h3, h4⟩ := h.rows
    exact ⟨_, h3.part lo hi c 1 (by have := h.cap; omega), h4.part h1 (by rw [h.len]; exact h2)⟩⟩
/-- what there was ahead of the call, and what is hidden -/
def NU (H : Heap) (G : FF) : Fp := fun k => k < H.size ∨ G.x k
theorem ext_nu {H H1 H2 : Heap} {G G' : FF} (x : Ext G.x H1 G'.x H2) (hs : H.size ≤ H1.size) : Ext (NU H G) H1 (NU H G') H2 :=
  ⟨x.1, fun k hk hn => x.2 k hk fun h => hn (.inr h), fun k hk => hk.elim (fun h => .inl (.inl h)) fun h => (x.3 k h).imp .inr id⟩
theorem up_nu {H H1 H2 : Heap} {G : FF} (w : WF G H1) (hs : H.size ≤ H1.size) : ∀ k, k < H2.size → ¬ Upto H1 k → ¬ NU H G k := fun k _ hn hc => hc.elim (fun h => hn (Nat.lt_of_lt_of_le h hs)) fun h => hn (w.lt k h)
theorem nu_up {H H2 : Heap} {G : FF} : ∀ k, k < H2.size → ¬ NU H G k → ¬ Upto H k := fun _ _ hn hc => hn (.inl hc)
theorem RowsS.snoc {N : Fp} {H : Heap} {vs : List Value} {L : List Bytes} (h : RowsS N H vs L) {q : Option Addr} {m mc : Nat} {xs : Bytes} (hq : Bs N H q m mc xs) : RowsS N H (vs ++ [.slice q m mc]) (L ++ [xs]) := by
  have hl := h.1
  refine ⟨by simp; omega, fun i hi => ?_⟩
  simp only [List.length_append, List.length_cons, List.length_nil] at hi
  by_cases e : i < L.length
  · obtain ⟨q', m', mc', h1, h2⟩ := h.2 i e
    refine ⟨q', m', mc', by rw [List.getElem?_append_left (by omega)]; exact h1, by rw [getD_app e]; exact h2⟩
  · have : i = L.length := by omega
    subst this
    exact ⟨q, m, mc, by rw [List.getElem?_append_right (by omega)]; simp [hl], by simpa using hq⟩
theorem take_succ_gD (L : List Bytes) {i : Nat} (h : i < L.length) : L.take (i + 1) = L.take i ++ [L.getD i []] := by
  rw [List.take_succ_eq_append_getElem h, List.getD_eq_getElem?_getD, List.getElem?_eq_getElem h]; rfl
theorem own_sto {G G' : FF} {H H' : Heap} {e : TypeId} {sz : Nat} {p : Option Addr} {n c : Nat} {vs : List Value} (o : Own (notG G) e sz H p n c vs) (s : Sto G H G' H') : Own (notG G') e sz H' p n c vs :=
  (o.of_block fun q hq => s.out _ (o.lt q hq) (.inl (notG_w (o.not q hq)))).mono fun q _ hn hc => hn fun hw => hc (by rw [s.w]; exact hw)
theorem txnUnpack_spec {N : Fp} {p : Option Addr} {n c : Nat} {L : List Bytes} {H : Heap} (h : Bss N H p n c L) :
    HP Try.prog F.txn_Unpack [.any, .bool] #[.slice p n c] H fun v b _ H' => UnpR H (unpackL L) v b H' := by
  obtain rfl := h.len
  have hsm := h.small
  refine txnUnpack_vc p _ c E H _ fun G1 H2 s1 => ?_
  have hL2 := h.e.ext s1.ext
  refine (txnBegin_spec hL2).pure fun w1 => ?_
  rintro s p4 n5 c6 ok _ H9 g9 hb
  have bad : unpackL L = none → ∀ (G8 : FF) (H9 : Heap), agA (.agg #[.int .u32 0, .slice none 0 0, .slice none 0 0]) 3 fun (cs10 : Array Value) => ∀ (G11 : FF) (H12 : Heap), Sto G8 H9 G11 H12 → UnpR H (unpackL L) (.agg cs10) false H12 := fun hb _ _ => by
    refine ⟨_, rfl, rfl, by simp [flat], fun _ _ _ => ?_⟩
    rw [hb]; exact ⟨rfl, rfl⟩
  unfold BegR at hb
  split at hb
  · rename_i hbl
    obtain ⟨rfl, rfl, rfl, rfl, rfl⟩ := hb
    exact br_true rfl (bad (by unfold unpackL; rw [hbl]) _ _)
  rename_i s' l hbl
  obtain ⟨rfl, rfl, oI⟩ := hb
  refine br_false rfl ?_
  have hl5 : l.length = n5 := oI.is.len
  have hu : unpackL L = if (L.length : Int) - 2 < l.length ∨ L.getD (L.length - 1) [] ≠ endB s then none else if formB l ((L.take (1 + l.length)).drop 1) then some ⟨s, l, (L.take (1 + l.length)).drop 1⟩ else none := by
    unfold unpackL; rw [hbl]
  rw [wrap_i64 (by omega) (by omega)]
  refine br_dec (fun h1 => bad (by rw [hu, if_pos (.inl (by omega))]) _ _) fun h1 => ?_
  rw [wrap_i64 (n := (L.length : Int) - 1) (by omega) (by omega), show ((L.length : Int) - 1).toNat = L.length - 1 by omega]
  refine ⟨by omega, (hL2.grow g9).ld' (i := L.length - 1) (by omega) fun bb oo q m mc hq hcq => ?_⟩
  refine (txnEnd_spec s H9).pure fun _ => ?_
  rintro q1 m1 mc1 _ H10 g10 ⟨rfl, o10⟩
  refine ⟨⟨_, _, _, hcq H10 g10, rfl⟩, (bytesEqualP (hq.grow g10) o10.bs).pure fun _ => ?_⟩
  rintro _ _ _ _ ⟨rfl, rfl⟩
  refine br_not (br_intro (fun he => ?_) fun he => bad (by rw [hu, if_pos (.inr (by simpa using he))]) _ _)
  have he' : L.getD (L.length - 1) [] = endB s := by simpa using he
  rw [if_neg (by rw [he']; simp; omega)] at hu
  have hlsm := oI.2
  refine ⟨_, rfl, rfl, by simp [flat], ?_⟩
  rw [wrap_i64 (n := 1 + (n5 : Int)) (by omega) (by omega)]
  have hcap := h.cap
  refine ⟨by simp only [bnd]; omega, by simp only [bnd]; omega, fun G36 H37 s37 => ?_⟩
  have gs : H.size ≤ H2.size := s1.size
  have hI : Is (NU H G1) H9 p4 n5 c6 l := oI.is.mono (up_nu w1 gs)
  have hI37 := (hI.grow g10).ext (ext_nu s37.ext (by have := g9.1; have := g10.1; omega))
  have hL37 := ((hL2.grow g9).grow g10).ext s37.ext
  have hs37 : H.size ≤ H37.size := by have := g9.1; have := g10.1; have := s37.size; omega
  have hd := hL37.part (lo := 1) (hi := 1 + n5) (by omega) (by omega)
  simp only [bnd, show (1 + (n5 : Int)).toNat = 1 + n5 by omega]
  rw [hl5] at hu
  generalize hdd : (L.take (1 + n5)).drop 1 = d at hd hu
  have hdl := hd.len
  refine ⟨fun m i cs G' H' => 0 ≤ i ∧ i ≤ n5 ∧ m = (n5 - i).toNat ∧ (∀ k, G'.w k → H.size ≤ k) ∧ Is (NU H G') H' p4 n5 c6 l ∧ ∃ q c vs, cs = #[.int .u32 s, .slice p4 n5 c6, .slice q i.toNat c] ∧ Own (notG G') T.S_uint8 1 H' q i.toNat c vs ∧ RowsS (NU H G') H' vs (d.take i.toNat),
    ⟨_, by omega, by omega, rfl, ?_, hI37, none, 0, [], rfl, .nil _ _ _ _, by simp [RowsS]⟩, ?_⟩
  · intro k hk
    rw [s37.w, s1.w] at hk
    exact hk.elim
  rintro _ G41 H42 im i cs m ⟨i0, i1, rfl, hw, hI42, q0, c0, vs, rfl, o42, r42⟩
  have hs42 : H.size ≤ H42.size := Nat.le_trans hs37 im.size
  refine br_dec (fun hi => ?_) fun hi => ?_
  · refine ⟨by omega, (hd.ext im.ext).ld (i := i.toNat) (by omega) fun q m mc hq => ⟨_, _, _, rfl, (cloneB_spec hq).pure fun w41 => ?_⟩⟩
    rintro q2 m2 mc2 _ H58 g58 ⟨rfl, o58⟩
    obtain ⟨ii, hii, hiz, hib, his⟩ := info_ssl
    have b58 : Bs (NU H G41) H58 q2 (d.getD i.toNat []).length mc2 (d.getD i.toNat []) := o58.bs.mono (up_nu w41 hs42)
    refine pushU und_ssl hii hiz (by omega) his rfl (o42.grow g58) rfl (by omega) fun p' c' G' H' o' kp x' hw' hww' _ => fun G68 H69 s69 => ?_
    have x1 := (ext_nu x' (H := H) (by have := g58.1; omega))
    have x2 := x1.trans (ext_nu s69.ext (by have := x'.1; have := g58.1; omega))
    refine ⟨_, ?_, by rw [wrap_i64 (by omega) (by omega)]; omega, by rw [wrap_i64 (by omega) (by omega)]; omega, rfl, fun k hk => ?_, (hI42.grow g58).ext x2, p', c', vs ++ [.slice q2 (d.getD i.toNat []).length mc2], ?_, ?_, ?_⟩
    · rw [wrap_i64 (by omega) (by omega)]; simp only [ltK]; omega
    · rw [s69.w] at hk
      rcases hw' k hk with h1 | h1
      · exact hw k h1
      · exact Nat.le_trans (Nat.le_trans hs42 g58.1) h1
    · rw [wrap_i64 (by omega) (by omega), show (i + 1).toNat = i.toNat + 1 by omega]; rfl
    · rw [wrap_i64 (by omega) (by omega), show (i + 1).toNat = i.toNat + 1 by omega]; exact own_sto o' s69
    · rw [wrap_i64 (by omega) (by omega), show (i + 1).toNat = i.toNat + 1 by omega, take_succ_gD d (by omega)]
      exact ((r42.ext ((g58.ext _).trans x2)).snoc (b58.ext x2))
  · have hin : i.toNat = n5 := by omega
    have hdn : d.take n5 = d := List.take_of_length_le (by omega)
    rw [hin] at o42 r42
    rw [hin]
    rw [hdn] at r42
    have hrow : Bss (Upto H) H42 q0 n5 c0 d := ⟨o42.cap, by omega, by omega, vs, (o42.up hw).toRow, r42.mono nu_up⟩
    refine (txnFormed_spec (s := s) (hI42.mono nu_up) hrow).pure fun _ => ?_
    rintro _ _ H73 g73 rfl
    refine br_not (br_intro (fun hf => ?_) fun hf => bad (by rw [hu, hf]; rfl) _ _)
    refine ⟨_, rfl, rfl, by simp [flat], fun G78 H79 s79 => ?_⟩
    rw [hu, hf]
    have x79 := (g73.ext (NU H G41)).trans (ext_nu s79.ext (by have := g73.1; omega))
    exact ⟨rfl, _, _, _, _, _, _, rfl, (hI42.ext x79).mono nu_up, o42.cap, by show d.length = n5; omega, by omega, vs, (Own.up (own_sto (o42.grow g73) s79) fun k hk => hw k (by rw [s79.w] at hk; exact hk)).toRow, (r42.ext x79).mono nu_up⟩
end Go.Proofs.Ash
