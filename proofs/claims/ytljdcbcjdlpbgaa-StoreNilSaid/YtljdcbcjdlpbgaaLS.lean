/-
  Parts of a proof: see the row.
-/
import Derived.Test.YtljdcbcjdlpbgaaLR
set_option linter.unusedVariables false
set_option linter.unusedSimpArgs false
open Go Go.Vc Go.V2 Go.Proofs
namespace Go.Proofs.Ash
set_option maxRecDepth 100000

/-! ## pushing an element onto a slice of one's own -/
def notG (G : FF) : Fp := fun k => ¬ G.w k
theorem notG_w {G : FF} {k : Nat} (h : ¬ notG G k) : G.w k := Classical.not_not.mp h
theorem pushU {t e : TypeId} {et : TypeId} {f : Nat × Nat} {i : TypeInfo} {z v : Value} {G : FF} {n c : Nat} {p : Option Addr} {xs : List Value} {H : Heap} {K : Option Addr → Nat → Nat → FF → Heap → Prop}
    (h0 : Try.prog.underlying t = some (.slice e)) (hi : Try.prog.info? e = some i) (hz : i.zero = some z) (hb : i.bytes ≤ 64) (hs : i.size = 1) (hzc : z.cells.size = 1)
    (ho : Own (notG G) e 1 H p n c xs) (hfl : flat v = true) (hn : n + 1 ≤ 2 ^ 40)
    (hK : ∀ p' c' G' H', Own (notG G') e 1 H' p' (n + 1) c' (xs ++ [v]) → Kept p H H' → Ext G.x H G'.x H' → (∀ k, G'.w k → G.w k ∨ H.size ≤ k) → (∀ k, G.w k → G'.w k) → WF G' H' → K p' (n + 1) c' G' H') :
    newK (.cells #[v] et f) H fun r H2 => stepX G H H2 fun G3 => appV Try.prog #[t, t] t #[.slice p n c, .slice (some ⟨r, 0, none⟩) 1 1] H2 fun v H' => ∃ p' n' c', v = .slice p' n' c' ∧ stepX G3 H2 H' fun G' => K p' n' c' G' H' := by
  refine new_im fun H2 g2 n2 s2 => ?_
  have ho2 := ho.grow g2
  have hpw : ∀ a, p = some a → G.w a.block := fun a ha => notG_w (ho.not a ha)
  refine appV_own (N := fun k => k < H2.size ∧ notG G k) h0 ⟨_, h0⟩ hi hz hb (by rw [hzc, hs]) (by rw [hs]; exact ho2.mono fun _ _ hh hc => hh hc.2) (rowIs_new n2) (by simp [hs]) (by simpa using hfl) hn (fun k hk => hk.1) fun p' c' H' o kp hp => ⟨_, _, _, rfl, fun w => ?_⟩
  have hx : Ext G.x H2 (G.upto H2 H').x H' := ⟨kp.1, fun k hk hn => kp.2 k hk fun a ha e => hn (e ▸ w.sub _ (hpw a ha)), fun k hk => hk.imp id fun h => h.1⟩
  have w' : WF (G.upto H2 H') H' := ⟨fun k hk => hk.elim (fun h => Nat.lt_of_lt_of_le (w.lt k h) kp.1) fun h => h.2, fun k hk => hk.imp (w.sub k) id⟩
  refine ⟨G.upto H2 H', ⟨kp.1, fun k hk hn => kp.2 k hk fun a ha e => hn (e ▸ hpw a ha), fun k hk => hk.imp id fun h => h.1, fun k hk => .inl hk, fun k hk => hk.imp id fun h => h.1⟩, w',
    hK p' c' _ H' ?_ ⟨Nat.le_trans g2.1 kp.1, fun k hk hh => by rw [kp.2 k (Nat.lt_of_lt_of_le hk g2.1) hh, g2.2 k hk]⟩ ((g2.ext G.x).trans hx) (fun k hk => hk.imp id fun h => Nat.le_trans g2.1 h.1) (fun k hk => .inl hk) w'⟩
  rw [hs] at o
  refine o.mono fun a ha hh hc => ?_
  have hlt := o.lt a ha
  have hnw : ¬ (G.upto H2 H').w a.block := hc
  rcases Nat.lt_or_ge a.block H2.size with h | h
  · exact hh ⟨h, fun h2 => hnw (.inl h2)⟩
  · exact hnw (.inr ⟨h, hlt⟩)
theorem und_ints : Try.prog.underlying T.S_int = some (.slice T.int) := by kernel_rfl
theorem info_int : ∃ i, Try.prog.info? T.int = some i ∧ i.zero = some (.int .i64 0) ∧ i.bytes = 8 ∧ i.size = 1 := ti_of (by kernel_rfl)
theorem und_ssl : Try.prog.underlying T.S_S_uint8 = some (.slice T.S_uint8) := by kernel_rfl
theorem info_ssl : ∃ i, Try.prog.info? T.S_uint8 = some i ∧ i.zero = some (.slice none 0 0) ∧ i.bytes = 24 ∧ i.size = 1 := ti_of (by kernel_rfl)
theorem _root_.Go.Vc.Own.up {H : Heap} {G' : FF} {e : TypeId} {sz : Nat} {H' : Heap} {p n c vs} (o : Own (notG G') e sz H' p n c vs) (hw : ∀ k, G'.w k → H.size ≤ k) : Own (Upto H) e sz H' p n c vs :=
  o.mono fun a _ hn hc => Nat.lt_irrefl _ (Nat.lt_of_lt_of_le hc (hw _ (notG_w hn)))

theorem Bss.ld' {N : Fp} {H : Heap} {p n c L} (h : Bss N H p n c L) {i : Nat} (hi : i < n) {K : Nat → Nat → Option Addr → Nat → Nat → Prop}
    (hk : ∀ b o q m mc, Bs N H q m mc (L.getD i []) → (∀ H', Grow H H' → hcell H' ⟨b, o + i * 1, none⟩ = some (.slice q m mc)) → K b o q m mc) : ptrK p fun b o => ldSl ⟨b, o + i * 1, none⟩ H (K b o) := by
  obtain ⟨vs, h1, h2⟩ := h.rows
  obtain ⟨q, m, mc, h3, h4⟩ := h2.2 i (by rw [h.len]; exact hi)
  refine h1.ld (i := i * 1) (v := .slice q m mc) (by simpa using h3) fun bb oo e _ hc => ⟨_, _, _, hc, hk _ _ _ _ _ h4 fun H' g => ?_⟩
  rcases h1.grow g with hr | ⟨b', o', e', _, hr⟩
  · subst hr; simp at h3
  · rw [e] at e'
    cases e'
    rw [Nat.mul_one]
    exact hr i _ h3

/-! ## txn.begin -/
def numAt (xs : Bytes) (i : Nat) : Int := (getN xs (10 + 2 * (i : Int)) 2).1
def numsOf (xs : Bytes) (k : Nat) : List Int := (List.range k).map (numAt xs)
theorem numsOf_length (xs : Bytes) (k : Nat) : (numsOf xs k).length = k := by simp [numsOf]
theorem numsOf_succ (xs : Bytes) (k : Nat) : numsOf xs (k + 1) = numsOf xs k ++ [numAt xs k] := by simp [numsOf, List.range_succ]
def begO (b : Bytes) : Option (Int × List Int) :=
  let c := openB b
  if sealed b = false ∨ (decide (4 ≤ c.length) && c.take 4 == jrnl) = false ∨ ((getN c 8 2).1 : Int) > 37 then none
  else
    let l := numsOf c (getN c 8 2).1
    let s := IntKind.wrap .u32 ((getN c 4 4).1 : Int)
    if numB l = false ∨ headB s l ≠ b then none else some (s, l)
def beginL : List Bytes → Option (Int × List Int)
  | [] => none
  | b :: _ => begO b
theorem getN_lt (xs : Bytes) (a k : Int) (hk : k ≤ 8) : (getN xs a k).1 < 2 ^ 64 := by
  unfold getN
  split
  · decide
  · have h := leVal_lt ((xs.drop a.toNat).take k.toNat)
    have hl : ((xs.drop a.toNat).take k.toNat).length ≤ 8 := by rw [List.length_take]; omega
    exact Nat.lt_of_lt_of_le h (Nat.pow_le_pow_right (n := 256) (by omega) hl)
theorem getN2_lt (xs : Bytes) (a : Int) : (getN xs a 2).1 < 65536 := by
  unfold getN
  split
  · decide
  · have h := leVal_lt ((xs.drop a.toNat).take (2 : Int).toNat)
    have hl : ((xs.drop a.toNat).take (2 : Int).toNat).length ≤ 2 := by rw [List.length_take]; exact Nat.min_le_left _ _
    exact Nat.lt_of_lt_of_le h (Nat.pow_le_pow_right (n := 256) (by omega) hl)
theorem numB_len {L : List Int} (h : numB L = true) : L.length ≤ 37 := by simp only [numB, Bool.and_eq_true, decide_eq_true_eq] at h; exact h.2
def BegR (H : Heap) (o : Option (Int × List Int)) (s : Int) (p : Option Addr) (n c : Nat) (b : Bool) (H' : Heap) : Prop :=
  match o with
  | none => s = 0 ∧ p = none ∧ n = 0 ∧ c = 0 ∧ b = false
  | some (s', l) => s = s' ∧ b = true ∧ OwnI (Upto H) H' p n c l
theorem txnBegin_spec {N : Fp} {p : Option Addr} {n c : Nat} {L : List Bytes} {H : Heap} (h : Bss N H p n c L) :
    HP Try.prog F.txn_begin [.int .u32, .sl, .bool] #[.slice p n c] H fun s q m mc b _ H' => BegR H (beginL L) s q m mc b H' := by
  obtain rfl := h.len
  refine txnBegin_vc p _ c E H _ (br_beq (fun h0 => ?_) fun h0 => ?_)
  · have : L = [] := List.eq_nil_of_length_eq_zero (by omega)
    subst this
    exact ⟨rfl, rfl, rfl, rfl, rfl⟩
  obtain ⟨b, L', rfl⟩ : ∃ b L', L = b :: L' := by cases L with
    | nil => exact (h0 rfl).elim
    | cons b L' => exact ⟨b, L', rfl⟩
  have bad : begO b = none → ∀ H', BegR H (beginL (b :: L')) 0 none 0 0 false H' := fun hb H' => by
    show BegR H (begO b) _ _ _ _ _ _
    rw [hb]; exact ⟨rfl, rfl, rfl, rfl, rfl⟩
  refine ⟨by simp, h.ld (i := 0) (by simp) fun p3 n4 c5 hb => ?_⟩
  have hb : Bs N H p3 n4 c5 b := hb
  have hbe := hb.e
  refine (packOpenP hb).pure fun _ => ?_
  rintro p6 n7 c8 _ _ H11 g1 ⟨rfl, rfl, o⟩
  refine br_not (br_intro (fun hs => ?_) fun hs => bad (by unfold begO; rw [if_pos (.inl hs)]) _)
  refine litB (xs := jrnl) (by simp [jrnl]) fun H12 g2 bj => (hasPrefixP (o.bs.grow g2) bj).pure fun _ => ?_
  rintro _ _ H13 g3 ⟨rfl, rfl⟩
  refine br_not (br_intro (fun hp => ?_) fun hp => bad (by unfold begO; rw [if_pos (.inr (.inl hp))]) _)
  refine (packGetP (o.bs.grow g2) 4 4).pure fun _ => ?_
  rintro _ _ _ _ _ ⟨rfl, rfl, rfl⟩
  refine (packGetP (o.bs.grow g2) 8 2).pure fun _ => ?_
  rintro _ _ _ _ _ ⟨rfl, rfl, rfl⟩
  refine br_dec (fun hm => bad (by unfold begO; rw [if_pos (.inr (.inr hm))]) _) fun hm => ?_
  have hk2 := getN2_lt (openB b) 8
  have hbo : begO b = if numB (numsOf (openB b) (getN (openB b) 8 2).1) = false ∨ headB (IntKind.wrap .u32 ((getN (openB b) 4 4).1 : Int)) (numsOf (openB b) (getN (openB b) 8 2).1) ≠ b then none
      else some (IntKind.wrap .u32 ((getN (openB b) 4 4).1 : Int), numsOf (openB b) (getN (openB b) 8 2).1) := by
    unfold begO
    have hp' : (decide (4 ≤ (openB b).length) && (openB b).take 4 == jrnl) = true := hp
    rw [if_neg]
    rintro (hc | hc | hc)
    · rw [hs] at hc; cases hc
    · rw [hp'] at hc; cases hc
    · exact hm hc
  generalize IntKind.wrap .u32 ((getN (openB b) 4 4).1 : Int) = sq at hbo ⊢
  generalize hmany : (getN (openB b) 8 2).1 = many at hbo hm hk2 ⊢
  have g12 := g1.trans g2
  have hx0 : ∀ k, (E.add H11.size).x k → H.size ≤ k := fun k hk => hk.elim (fun h => h.elim) fun e => by have := g1.1; omega
  have x0 : Ext E.x H (E.add H11.size).x H12 := ⟨g12.1, fun k hk _ => g12.2 k hk, fun k hk => hk.imp id fun e => by have := g1.1; omega⟩
  have x1 : Ext E.x H11 (E.add H11.size).x H12 := ⟨g2.1, fun k hk _ => g2.2 k hk, fun k hk => hk.imp id fun e => by omega⟩
  have hL := h.e.ext x0
  have hc := (OwnB.e' o).ext x1
  refine ⟨fun m p n c i G' H' => 0 ≤ i ∧ i ≤ many ∧ m = (many - i).toNat ∧ (∀ k, G'.w k → H.size ≤ k) ∧ (n : Int) = i ∧ Own (notG G') T.int 1 H' p n c ((numsOf (openB b) i.toNat).map intV),
    ⟨_, by omega, by omega, rfl, hx0, rfl, .nil _ _ _ _⟩, ?_⟩
  rintro _ G14 H14 im p14 n14 c14 i m ⟨i0, i1, rfl, hw14, hni, o14⟩
  rw [wrap_i64 (n := (many : Int)) (by omega) (by omega)]
  refine br_dec (fun hi => ?_) fun hi => ?_
  · refine (packGetP (hc.ext im.ext) _ _).pure fun _ => ?_
    rintro _ _ _ _ _ ⟨rfl, rfl, rfl⟩
    rw [wrap_i64 (n := 2 * i) (by omega) (by omega), wrap_i64 (n := 10 + 2 * i) (by omega) (by omega)]
    have hlt := getN2_lt (openB b) (10 + 2 * i)
    rw [wrap_i64 (n := ((getN (openB b) (10 + 2 * i) 2).1 : Int)) (by omega) (by omega)]
    obtain ⟨ii, hii, hiz, hib, his⟩ := info_int
    refine pushU und_ints hii hiz (by omega) his rfl o14 rfl (by omega) fun p' c' G' H' o' kp x' hw' _ _ => ⟨_, ?_, by rw [wrap_i64 (by omega) (by omega)]; omega, by rw [wrap_i64 (by omega) (by omega)]; omega, rfl, fun k hk => ?_, ?_, ?_⟩
    · rw [wrap_i64 (by omega) (by omega)]; simp only [ltK]; omega
    · rcases hw' k hk with h1 | h1
      · exact hw14 k h1
      · exact Nat.le_trans (Nat.le_trans g12.1 im.size) h1
    · rw [wrap_i64 (by omega) (by omega)]; omega
    · rw [wrap_i64 (by omega) (by omega), show (i + 1).toNat = i.toNat + 1 by omega, numsOf_succ, List.map_append]
      have : numAt (openB b) i.toNat = (getN (openB b) (10 + 2 * i) 2).1 := by unfold numAt; rw [show ((i.toNat : Nat) : Int) = i by omega]
      rw [List.map_singleton, this]; exact o'
  · have hin : i.toNat = many := by omega
    rw [hin] at o14
    have hn14 : n14 = many := by omega
    have oI : OwnI (Upto H) H14 p14 n14 c14 (numsOf (openB b) many) := ⟨o14.up hw14, by omega⟩
    have hI := oI.is
    refine (numbered_spec hI).pure fun _ => ?_
    rintro _ _ H15 g15 rfl
    refine br_not (br_intro (fun hnb => ?_) fun hnb => bad (by rw [hbo, if_pos (.inl hnb)]) _)
    have hL15 := (hL.ext im.ext).grow g15
    refine ⟨by simp, hL15.ld' (i := 0) (by simp) fun bb oo p7 n7 c7 hb7 hc7 => ?_⟩
    have hb7 : Bs G14.x H15 p7 n7 c7 b := hb7
    refine (txnHead_spec (hI.grow g15) (numB_len hnb) sq).pure fun _ => ?_
    rintro q8 m8 mc8 _ H16 g16 ⟨rfl, o16⟩
    refine ⟨⟨_, _, _, hc7 H16 g16, rfl⟩, (bytesEqualP o16.bs (hb7.grow g16)).pure fun _ => ?_⟩
    rintro _ _ _ _ ⟨rfl, rfl⟩
    refine br_not (br_intro (fun he => ?_) fun he => bad (by rw [hbo, if_pos (.inr (by simpa using he))]) _)
    show BegR H (begO b) _ _ _ _ _ _
    have he' : headB sq (numsOf (openB b) many) = b := by simpa using he
    rw [hbo, if_neg (by rw [hnb, he']; simp)]
    exact ⟨rfl, rfl, oI.1.grow (g15.trans g16), oI.2⟩

theorem txnSeq_spec {N : Fp} {p : Option Addr} {n c : Nat} {L : List Bytes} {H : Heap} (h : Bss N H p n c L) :
    HP Try.prog F.txn_Seq [.int .u32, .bool] #[.slice p n c] H fun s b _ _ => (s, b) = match beginL L with | none => (0, false) | some (s, _) => (s, true) := by
  refine txnSeq_vc p n c E H _ ((txnBegin_spec h).pure fun _ => ?_)
  intro s q m mc b _ H' g hb
  unfold BegR at hb
  split at hb
  · obtain ⟨rfl, _, _, _, rfl⟩ := hb; rfl
  · obtain ⟨rfl, rfl, _⟩ := hb; rfl

/-! ## txn.Unpack -/
structure TxnS where
  seq : Int
  nums : List Int
  data : List Bytes
/-- a change as a value -/
def TxnV (N : Fp) (H : Heap) (v : Value) (T : TxnS) : Prop := ∃ p n c q m mc, v = .agg #[.int .u32 T.seq, .slice p n c, .slice q m mc] ∧ Is N H p n c T.nums ∧ Bss N H q m mc T.data
def zeroT : Value := .agg #[.int .u32 0, .slice none 0 0, .slice none 0 0]
def unpackL (L : List Bytes) : Option TxnS :=
  match beginL L with
  | none => none
  | some (s, l) => if (L.length : Int) - 2 < l.length ∨ L.getD (L.length - 1) [] ≠ endB s then none
    else
      let d := (L.take (1 + l.length)).drop 1
      if formB l d then some ⟨s, l, d⟩ else none
def UnpR (H : Heap) (o : Option TxnS) (v : Value) (b : Bool) (H' : Heap) : Prop :=
  match o with
  | none => v = zeroT ∧ b = false
  | some T => b = true ∧ TxnV (Upto H) H' v T
end Go.Proofs.Ash
