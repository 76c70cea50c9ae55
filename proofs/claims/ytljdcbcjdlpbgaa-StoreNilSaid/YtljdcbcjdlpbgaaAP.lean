/-
  Parts of a proof: see the row.
-/
import Derived.Test.YtljdcbcjdlpbgaaAV
import Derived.Test.YtljdcbcjdlpbgaaVcByte
set_option linter.unusedVariables false
set_option linter.unusedSimpArgs false
open Go Go.Vc Go.Proofs
namespace Go.Proofs.Ash
set_option maxRecDepth 100000
theorem und_bytes : Try.prog.underlying T.S_uint8 = some (.slice T.uint8) := by kernel_rfl
theorem und_int : Try.prog.underlying T.int = some (.int .i64) := by kernel_rfl
theorem ti_u8 : (Try.prog.info? T.uint8).map (fun i => (i.zero, i.bytes, i.size)) = some (some (.int .u8 0), 1, 1) := by kernel_rfl
theorem ti_of {t : TypeId} {z : Value} {b s : Nat} (h : (Try.prog.info? t).map (fun i => (i.zero, i.bytes, i.size)) = some (some z, b, s)) : ∃ i, Try.prog.info? t = some i ∧ i.zero = some z ∧ i.bytes = b ∧ i.size = s := by
  obtain ⟨i, hi, he⟩ := Option.map_eq_some_iff.1 h
  simp only [Prod.mk.injEq] at he
  exact ⟨i, hi, he.1, he.2.1, he.2.2⟩
theorem info_u8 : ∃ i, Try.prog.info? T.uint8 = some i ∧ i.zero = some (.int .u8 0) ∧ i.bytes = 1 ∧ i.size = 1 := ti_of ti_u8
theorem cells_u8 (x : Int) : (Value.int .u8 x).cells = #[.int .u8 x] := rfl
theorem zeros_u8 (n : Nat) : zeroRow (.int .u8 0) n = (List.replicate n (0 : UInt8)).map byteV := by
  rw [zeroRow_one rfl, List.map_replicate]; rfl

/-- append, of bytes -/
theorem appB {N M : Fp} {p q : Option Addr} {n c m mc : Nat} {xs ys : Bytes} {H : Heap} {K : Value → Heap → Prop} (ho : OwnB N T.uint8 H p n c xs) (hy : Bs M H q m mc ys) (hn : n + m ≤ 2 ^ 40) (hB : ∀ k, N k → k < H.size)
    (hK : ∀ p' c' H', OwnB N T.uint8 H' p' (n + m) c' (xs ++ ys) → Kept p H H' → (p' = p ∨ ∃ a, p' = some a ∧ H.size ≤ a.block) → K (.slice p' (n + m) c') H') :
    appV Try.prog #[T.S_uint8, T.S_uint8] T.S_uint8 #[.slice p n c, .slice q m mc] H K := by
  obtain ⟨i, hi, hz, hb, hs⟩ := info_u8
  refine appV_own (e := T.uint8) und_bytes ⟨_, und_bytes⟩ hi hz (by omega) (by rw [hs]; rfl) (by rw [hs]; exact ho.own) hy.row.is (by rw [hs]; simp [hy.len]) (flat_bytes ys) hn hB fun p' c' H' h1 h2 h3 => hK p' c' H' ⟨?_, hn⟩ h2 h3
  rw [hs] at h1; rw [List.map_append]; exact h1
theorem appBz {N : Fp} {p : Option Addr} {n c m : Nat} {xs : Bytes} {H : Heap} {K : Value → Heap → Prop} (ho : OwnB N T.uint8 H p n c xs) (hn : n + m ≤ 2 ^ 40) (hB : ∀ k, N k → k < H.size)
    (hK : ∀ p' c' H', OwnB N T.uint8 H' p' (n + m) c' (xs ++ List.replicate m 0) → Kept p H H' → (p' = p ∨ ∃ a, p' = some a ∧ H.size ≤ a.block) → K (.slice p' (n + m) c') H') :
    appV Try.prog #[T.S_uint8, T.int] T.S_uint8 #[.slice p n c, .int .i64 m] H K := by
  obtain ⟨i, hi, hz, hb, hs⟩ := info_u8
  refine appV_zeros (e := T.uint8) und_bytes und_int hi hz (by omega) (by omega) (by rw [hs]; rfl) (fun v hv => (show v = .int .u8 0 by simpa [cells_u8] using hv) ▸ rfl) (by rw [hs]; exact ho.own) hn hB fun p' c' H' h1 h2 h3 => hK p' c' H' ⟨?_, hn⟩ h2 h3
  rw [hs, zeros_u8] at h1; rw [List.map_append]; exact h1
theorem mkB {n : Nat} {H : Heap} {K : Value → Heap → Prop} (hn : n ≤ 2 ^ 40)
    (hK : ∀ H', OwnB (Upto H) T.uint8 H' (some ⟨H.size, 0, none⟩) n n (List.replicate n 0) → Grow H H' → H'.size = H.size + 1 → K (.slice (some ⟨H.size, 0, none⟩) n n) H') : msV Try.prog T.S_uint8 (.int .i64 n) (.int .i64 n) H K := by
  obtain ⟨i, hi, hz, hb, hs⟩ := info_u8
  refine msV_own (e := T.uint8) und_bytes hi hz (by omega) (by rw [hs]; rfl) hn fun H' h1 h2 h3 => hK H' ⟨?_, hn⟩ h2 h3
  rw [hs, zeros_u8] at h1; exact h1
/-- an answer of new bytes -/
def NewB (H : Heap) (xs : Bytes) (v : Value) (H' : Heap) : Prop := Grow H H' ∧ ∃ p c, v = .slice p xs.length c ∧ OwnB (Upto H) T.uint8 H' p xs.length c xs

theorem clone_spec {N : Fp} {p : Option Addr} {n c : Nat} {xs : Bytes} {H : Heap} (h : Bs N H p n c xs) : HC Try.prog F.slices_Clone_Sbyte_byte #[.slice p n c] H (NewB H xs) := by
  obtain rfl := h.len
  refine clone_vc p _ c H _ (br_intro (fun hp => ?_) fun hp => ?_)
  · cases p with
    | some a => cases hp
    | none =>
      have : xs = [] := by
        rcases h.row with h | ⟨b, o, h, _⟩
        · simpa using h
        · cases h
      subst this
      exact ⟨.refl _, none, 0, rfl, ⟨.nil _ _ _ _, by simp⟩⟩
  · rintro r H2 rfl rfl
    have ho : OwnB (Upto H) T.uint8 (H.push (.cells #[] 5 (0, 0))) (some ⟨H.size, 0, none⟩) 0 0 [] := ⟨⟨rfl, .inr ⟨H.size, #[], rfl, Nat.lt_irrefl _, .mk (by simp), Nat.le_refl _, rfl, fun i v hv => by cases hv⟩⟩, by omega⟩
    refine appB ho (h.grow (.push _ _)) (by have := h.small; omega) (fun k hk => by have : k < H.size := hk
                                                                                    simp; omega) fun p' c' H' h1 h2 h3 => ?_
    rw [Nat.zero_add] at h1 ⊢
    refine ⟨_, _, _, rfl, ⟨?_, fun k hk => ?_⟩, p', c', rfl, h1⟩
    · have := h2.1; simp at this; omega
    · rw [h2.2 k (by simp; omega) fun a ha => by cases ha; simp; omega, hpush_old _ hk]
theorem NewB.bs {N : Fp} {H : Heap} {xs : Bytes} {v : Value} {H' : Heap} (h : NewB H xs v H') (hN : ∀ k, N k → k < H.size) : ∃ p c, v = .slice p xs.length c ∧ Bs N H' p xs.length c xs := by
  obtain ⟨g, p, c, rfl, ho⟩ := h
  exact ⟨p, c, rfl, (ho.mono fun a _ hn hk => hn (hN _ hk)).bs⟩

theorem grow_spec {H : Heap} {m : Nat} (hm : m ≤ 2 ^ 40) : HC Try.prog F.slices_Grow_Sbyte_byte #[.slice none 0 0, .int .i64 m] H fun v H' => Grow H H' ∧ ∃ p c, v = .slice p 0 c ∧ OwnB (Upto H) T.uint8 H' p 0 c [] := by
  refine grow_vc none 0 0 m H _ (br_neg (by omega) (br_dec (fun hp => ⟨by simp [bnd], ?_⟩) fun hp => ⟨.refl _, none, 0, rfl, ⟨.nil _ _ _ _, by omega⟩⟩))
  have e : IntKind.wrap .i64 ((m : Int) - IntKind.wrap .i64 (((0 : Nat) : Int) - ((0 : Nat) : Int))) = m := by
    rw [wrap_i64 (n := ((0 : Nat) : Int) - ((0 : Nat) : Int)) (by omega) (by omega), wrap_i64 (by omega) (by omega)]; omega
  rw [e]
  refine appBz (N := Upto H) (n := 0) (p := none) (c := 0) (xs := []) ⟨.nil _ _ _ _, by omega⟩ (by omega) (fun k hk => hk) fun p' c' H' h1 h2 _ => ⟨_, _, _, rfl, ⟨by omega, by simp [bnd]⟩, ?_⟩
  exact ⟨(Grow.refl H).kept h2 (fun a ha => by cases ha), _, _, rfl, ⟨by have := h1.own.cut (m := 0) (by omega); simpa [bnd] using this, by omega⟩⟩
theorem take_flatten (L : List Bytes) {i : Nat} (h : i < L.length) : (L.take (i + 1)).flatten = (L.take i).flatten ++ L.getD i [] := by
  rw [List.take_succ_eq_append_getElem h, List.flatten_append, List.getD_eq_getElem?_getD, List.getElem?_eq_getElem h]; simp
theorem take_le (L : List Bytes) (i : Nat) : (L.take i).flatten.length ≤ L.flatten.length := by
  have : (L.take i ++ L.drop i).flatten.length = L.flatten.length := by rw [List.take_append_drop]
  rw [List.flatten_append, List.length_append] at this; omega
theorem concat_spec {N : Fp} {p : Option Addr} {n c : Nat} {L : List Bytes} {H : Heap} (h : Bss N H p n c L) (hs : L.flatten.length ≤ 2 ^ 40) (hn : n ≤ 2 ^ 40) : HC Try.prog F.slices_Concat_Sbyte_byte #[.slice p n c] H (NewB H L.flatten) := by
  obtain rfl := h.len
  refine concat_vc p _ c H _ ⟨fun a i H' => H = H' ∧ 0 ≤ i ∧ i ≤ L.length ∧ a = ((L.take i.toNat).flatten.length : Nat), fun _ i _ => (L.length - i).toNat, ⟨rfl, by omega, by omega, rfl⟩, ?_⟩
  rintro _ _ a i ⟨rfl, h0, h1, rfl⟩
  refine br_dec (fun hi => ⟨by omega, h.ld (i := i.toNat) (by omega) fun q m mc hb => ?_⟩) fun hi => ?_
  · have e := take_flatten L (i := i.toNat) (by have := h.len; omega)
    have e2 : (L.take (i + 1).toNat).flatten.length = (L.take i.toNat).flatten.length + m := by
      rw [show (i + 1).toNat = i.toNat + 1 by omega, e, List.length_append, hb.len]
    have := take_le L (i + 1).toNat
    rw [wrap_i64 (n := i + 1) (by omega) (by omega), wrap_i64 (by omega) (by omega)]
    exact br_neg (by omega) ⟨⟨rfl, by omega, by omega, by omega⟩, by simp only [ltK]; omega⟩
  · have hin : i.toNat = L.length := by omega
    rw [hin, List.take_length]
    refine (grow_spec hs).mono ?_
    rintro _ H1 ⟨g1, p1, c1, rfl, o1⟩
    refine ⟨_, _, _, rfl, fun p' n' c' j H' => Grow H H' ∧ 0 ≤ j ∧ j ≤ L.length ∧ OwnB (Upto H) T.uint8 H' p' n' c' (L.take j.toNat).flatten, fun _ _ _ j _ => (L.length - j).toNat, ⟨g1, by omega, by omega, o1⟩, ?_⟩
    rintro _ H2 p2 n2 c2 j ⟨g2, h2, h3, o2⟩
    refine br_dec (fun hj => ⟨by omega, (h.grow g2).ld (i := j.toNat) (by omega) fun q m mc hb => ?_⟩) fun hj => ?_
    · have e := take_flatten L (i := j.toNat) (by have := h.len; omega)
      have e2 : (L.take (j.toNat + 1)).flatten.length = n2 + m := by rw [e, List.length_append, hb.len, o2.len]
      have := take_le L (j.toNat + 1)
      refine appB o2 hb (by omega) (Upto.lt g2) fun p3 c3 H3 o3 k3 _ => ⟨_, _, _, rfl, ?_, by simp only [ltK]; rw [wrap_i64 (by omega) (by omega)]; omega⟩
      rw [wrap_i64 (by omega) (by omega)]
      exact ⟨g2.kept k3 o2.own.not, by omega, by omega, by rw [show (j + 1).toNat = j.toNat + 1 by omega, e]; exact o3⟩
    · have hjn : j.toNat = L.length := by omega
      rw [hjn, List.take_length] at o2
      obtain rfl := o2.len
      exact ⟨g2, _, _, rfl, o2⟩
/-- two slices of bytes side by side in a new block -/
theorem pairB {H : Heap} {p q : Option Addr} {n c m mc : Nat} {xs ys : Bytes} {N M : Fp} (h1 : Bs N H p n c xs) (h2 : Bs M H q m mc ys) :
    Bss (fun _ => False) (H.push (.cells #[.slice p n c, .slice q m mc] T.S_uint8 (0, 0))) (some ⟨H.size, 0, none⟩) 2 2 [xs, ys] := by
  have g := Grow.push H (.cells #[.slice p n c, .slice q m mc] T.S_uint8 (0, 0))
  refine ⟨Nat.le_refl _, rfl, [.slice p n c, .slice q m mc], .inr ⟨_, _, rfl, id, fun i v hv => by rw [Nat.zero_add, hcell_cells (hpush_new H _)]; simpa using hv⟩, fun i x hi => ?_⟩
  match i with
  | 0 => cases hi; exact ⟨_, _, _, rfl, (h1.grow g).mono fun _ _ _ h => h⟩
  | 1 => cases hi; exact ⟨_, _, _, rfl, (h2.grow g).mono fun _ _ _ h => h⟩
  | i + 2 => simp at hi
theorem NewB.before {H0 H : Heap} {xs : Bytes} {v : Value} {H' : Heap} (g : Grow H0 H) (h : NewB H xs v H') : NewB H0 xs v H' := by
  obtain ⟨g1, p, c, e, o⟩ := h
  exact ⟨g.trans g1, p, c, e, o.mono fun a _ hn hk => hn (Upto.lt g _ hk)⟩
/-- bytes and a number behind them -/
def putN (xs : Bytes) (x k : Int) : Bytes := if k < 1 ∨ 8 < k then xs else xs ++ le k.toNat x
theorem packPut_spec {N : Fp} {p : Option Addr} {n c : Nat} {xs : Bytes} {H : Heap} (h : Bs N H p n c xs) (hn : n ≤ 2 ^ 39) (x k : Int) : HC Try.prog F.pack_Put #[.slice p n c, .int .u64 x, .int .i64 k] H (NewB H (putN xs x k)) := by
  obtain rfl := h.len
  refine packPut_vc p _ c x k H _ (br_dec (fun h1 => ?_) fun h1 => br_dec (fun h2 => ?_) fun h2 => ?_)
  · rw [putN, if_pos (by omega)]
    refine (clone_spec h).mono fun v H' ⟨g, p', c', e, o⟩ => ⟨_, _, _, e, g, _, _, rfl, o⟩
  · rw [putN, if_pos (by omega)]
    refine (clone_spec h).mono fun v H' ⟨g, p', c', e, o⟩ => ⟨_, _, _, e, g, _, _, rfl, o⟩
  rw [putN, if_neg (by omega)]
  obtain ⟨m, rfl⟩ : ∃ m : Nat, k = m := ⟨k.toNat, by omega⟩
  simp only [Int.toNat_natCast]
  refine mkB (by omega) fun H1 o1 g1 s1 => ⟨_, _, _, rfl, ?_⟩
  rintro r H2 rfl rfl
  refine (concat_spec (pairB (h.grow g1) o1.bs) (by simp; omega) (by omega)).mono ?_
  rintro _ H3 ⟨g3, p3, c3, rfl, o3⟩
  have g2 : Grow H H3 := g1.trans ((Grow.push _ _).trans g3)
  have e3 : [xs, List.replicate m (0 : UInt8)].flatten = xs ++ List.replicate m 0 := by simp
  rw [e3] at o3 ⊢
  have o4 : OwnB (Upto H) T.uint8 H3 p3 (xs ++ List.replicate m (0 : UInt8)).length c3 (xs ++ List.replicate m 0) := o3.mono fun a _ hk hh => hk (Upto.lt (g1.trans (.push _ _)) _ hh)
  generalize hl : (xs ++ List.replicate m (0 : UInt8)).length = l at o4 ⊢
  have hl2 : l = xs.length + m := by simp at hl; omega
  refine ⟨_, _, _, rfl, fun i H' => Grow H H' ∧ 0 ≤ i ∧ i ≤ m ∧ OwnB (Upto H) T.uint8 H' p3 l c3 (xs ++ le i.toNat x ++ List.replicate (m - i.toNat) 0), fun i _ => (m - i).toNat, ⟨g2, by omega, by omega, by simpa [le] using o4⟩, ?_⟩
  rintro _ H4 i ⟨g4, hi0, hi1, o5⟩
  refine br_dec (fun hi => ?_) fun hi => ?_
  · have e1 : IntKind.wrap .i64 (8 * i) = 8 * i := wrap_i64 (by omega) (by omega)
    have e2 : IntKind.wrap .u64 (8 * i) = 8 * i := wrap_u64 (by omega) (by omega)
    have e4 : IntKind.wrap .i64 ((xs.length : Int) + i) = xs.length + i := wrap_i64 (by omega) (by omega)
    have e5 : IntKind.wrap .i64 (i + 1) = i + 1 := wrap_i64 (by omega) (by omega)
    rw [e1, e2, e4, e5]
    have e6 : Int.fdiv x (2 ^ min (Int.toNat (8 * i)) 64) = x / 256 ^ i.toNat := by
      rw [show min (8 * i).toNat 64 = 8 * i.toNat by omega, Int.fdiv_eq_ediv_of_nonneg _ (by apply Int.pow_nonneg; omega), Int.pow_mul]; rfl
    rw [e6]
    refine ⟨by omega, ⟨by omega, by omega⟩, o5.st (i := ((xs.length : Int) + i).toNat) (by omega) fun H5 k5 s5 o6 => ⟨⟨g4.kept k5 o5.own.not, by omega, by omega, ?_⟩, by simp only [ltK]; omega⟩⟩
    rw [show ((xs.length : Int) + i).toNat = xs.length + i.toNat by omega, put_set xs m i.toNat _ x rfl (by omega)] at o6
    rw [show (i + 1).toNat = i.toNat + 1 by omega]; exact o6
  · have him : i.toNat = m := by omega
    rw [him, Nat.sub_self, List.replicate_zero, List.append_nil] at o5
    obtain rfl := o5.len
    exact ⟨g4, _, _, rfl, o5⟩
/-- a number that stands somewhere -/
def getN (xs : Bytes) (a k : Int) : Nat × Bool := if k < 1 ∨ 8 < k ∨ a < 0 ∨ a > xs.length ∨ k > xs.length - a then (0, false) else (leVal ((xs.drop a.toNat).take k.toNat), true)
theorem packGet_spec {N : Fp} {p : Option Addr} {n c : Nat} {xs : Bytes} {H : Heap} (h : Bs N H p n c xs) (a k : Int) : HC Try.prog F.pack_Get #[.slice p n c, .int .i64 a, .int .i64 k] H fun v H' => H = H' ∧ v = .tuple #[.int .u64 (getN xs a k).1, .bool (getN xs a k).2] := by
  obtain rfl := h.len
  have hsm := h.small
  have hbad : k < 1 ∨ 8 < k ∨ a < 0 ∨ a > xs.length ∨ k > xs.length - a → H = H ∧ Value.tuple #[.int .u64 0, .bool false] = .tuple #[.int .u64 (getN xs a k).1, .bool (getN xs a k).2] := fun hh => ⟨rfl, by rw [getN, if_pos hh]; rfl⟩
  refine packGet_vc p _ c a k H _ (br_dec (fun h1 => hbad (by omega)) fun h1 => br_dec (fun h2 => hbad (by omega)) fun h2 => br_dec (fun h3 => hbad (by omega)) fun h3 => br_dec (fun h4 => hbad (by omega)) fun h4 => ?_)
  rw [wrap_i64 (n := (xs.length : Int) - a) (by omega) (by omega), wrap_i64 (n := k - 1) (by omega) (by omega)]
  refine br_dec (fun h5 => hbad (by omega)) fun h5 => ?_
  refine ⟨fun v i H' => H = H' ∧ -1 ≤ i ∧ i ≤ k - 1 ∧ v = leVal ((xs.drop (a + i + 1).toNat).take (k - 1 - i).toNat), fun _ i _ => (i + 1).toNat, ⟨rfl, by omega, by omega, ?_⟩, ?_⟩
  · rw [show (k - 1 - (k - 1)).toNat = 0 by omega]; simp [leVal]
  rintro _ _ v i ⟨rfl, hi0, hi1, rfl⟩
  refine br_dec (fun hi => ?_) fun hi => ?_
  · rw [wrap_i64 (n := a + i) (by omega) (by omega), wrap_i64 (n := i - 1) (by omega) (by omega)]
    refine ⟨by omega, ⟨by omega, by omega⟩, h.ld (i := (a + i).toNat) (by omega) ?_⟩
    have hv : leVal ((xs.drop (a + i + 1).toNat).take (k - 1 - i).toNat) < 2 ^ 56 := by
      have h7 : ((xs.drop (a + i + 1).toNat).take (k - 1 - i).toNat).length ≤ 7 := by simp only [List.length_take]; omega
      exact Nat.lt_of_lt_of_le (leVal_lt _) (Nat.pow_le_pow_right (n := 256) (by omega) h7)
    rw [getStep hv (UInt8.toNat_lt _)]
    refine ⟨⟨rfl, by omega, by omega, ?_⟩, by simp only [ltK]; omega⟩
    have := leVal_step xs (a + i).toNat (k - 1 - i).toNat (by omega)
    rw [show (a + (i - 1) + 1).toNat = (a + i).toNat by omega, show (k - 1 - (i - 1)).toNat = (k - 1 - i).toNat + 1 by omega, this, show (a + i).toNat + 1 = (a + i + 1).toNat by omega]
    congr 1; omega
  · have hi2 : i = -1 := by omega
    subst hi2
    refine ⟨rfl, ?_⟩
    rw [getN, if_neg (by omega), show (a + -1 + 1).toNat = a.toNat by omega, show (k - 1 - -1).toNat = k.toNat by omega]
theorem fnv_take (xs : Bytes) (i : Nat) (h : i < xs.length) : fnv (xs.take (i + 1)) = fnv1 (fnv (xs.take i)) (xs.getD i 0) := by
  rw [List.take_succ_eq_append_getElem h, fnv, List.foldl_append, List.getD_eq_getElem?_getD, List.getElem?_eq_getElem h, List.foldl_cons, List.foldl_nil, Option.getD_some, fnv]
theorem packSum_spec {N : Fp} {p : Option Addr} {n c : Nat} {xs : Bytes} {H : Heap} (h : Bs N H p n c xs) : HC Try.prog F.pack_Sum #[.slice p n c] H fun v H' => H = H' ∧ v = .int .u32 (fnv xs) := by
  obtain rfl := h.len
  have hsm := h.small
  refine packSum_vc p _ c H _ ⟨fun s i H' => H = H' ∧ 0 ≤ i ∧ i ≤ xs.length ∧ s = fnv (xs.take i.toNat), fun _ i _ => (xs.length - i).toNat, ⟨rfl, by omega, by omega, rfl⟩, ?_⟩
  rintro _ _ s i ⟨rfl, h0, h1, rfl⟩
  refine br_dec (fun hi => ⟨by omega, h.ld (i := i.toNat) (by omega) ?_⟩) fun hi => ⟨rfl, ?_⟩
  · rw [sumStep _ _ (fnv_lt _), ← fnv_take xs _ (by omega), wrap_i64 (by omega) (by omega)]
    exact ⟨⟨rfl, by omega, by omega, by rw [show (i + 1).toNat = i.toNat + 1 by omega]⟩, by simp only [ltK]; omega⟩
  · rw [show i.toNat = xs.length by omega, List.take_length]
/-- new bytes, and an error -/
def NewBE (H : Heap) (xs : Bytes) (e : Int) (v : Value) (H' : Heap) : Prop := Grow H H' ∧ ∃ p c, v = .tuple #[.slice p xs.length c, .int .i64 e] ∧ OwnB (Upto H) T.uint8 H' p xs.length c xs
theorem NewBE.nil (H : Heap) (e : Int) : NewBE H [] e (.tuple #[.slice none 0 0, .int .i64 e]) H := ⟨.refl _, _, _, rfl, .nil _ _ _ _, by simp⟩
/-- new bytes, and whether -/
def NewBb (H : Heap) (xs : Bytes) (e : Bool) (v : Value) (H' : Heap) : Prop := Grow H H' ∧ ∃ p c, v = .tuple #[.slice p xs.length c, .bool e] ∧ OwnB (Upto H) T.uint8 H' p xs.length c xs
theorem NewBb.nil (H : Heap) (e : Bool) : NewBb H [] e (.tuple #[.slice none 0 0, .bool e]) H := ⟨.refl _, _, _, rfl, .nil _ _ _ _, by simp⟩
def padB (xs : Bytes) : Bytes := xs ++ List.replicate (252 - xs.length) 0
theorem padB_length {xs : Bytes} (h : xs.length ≤ 252) : (padB xs).length = 252 := by simp [padB]; omega
def sealB (xs : Bytes) : Bytes := padB xs ++ le 4 (fnv (padB xs))
theorem sealB_length {xs : Bytes} (h : xs.length ≤ 252) : (sealB xs).length = 256 := by simp [sealB, padB_length h, le_length]
theorem packSeal_spec {N : Fp} {p : Option Addr} {n c : Nat} {xs : Bytes} {H : Heap} (h : Bs N H p n c xs) : HC Try.prog F.pack_Seal #[.slice p n c] H fun v H' => if xs.length ≤ 252 then NewBE H (sealB xs) 0 v H' else NewBE H [] 1 v H' := by
  obtain rfl := h.len
  refine packSeal_vc p _ c H _ (br_dec (fun h1 => ?_) fun h1 => ?_)
  · rw [if_neg (by omega)]; exact .nil _ _
  rw [show IntKind.wrap .i64 (252 - (xs.length : Int)) = ((252 - xs.length : Nat) : Int) by rw [wrap_i64 (by omega) (by omega)]; omega]
  refine mkB (by omega) fun H1 o1 g1 s1 => ⟨_, _, _, rfl, ?_⟩
  rintro r H2 rfl rfl
  refine (concat_spec (pairB (h.grow g1) o1.bs) (by simp; omega) (by omega)).mono ?_
  rintro _ H3 ⟨g3, p3, c3, rfl, o3⟩
  have g2 : Grow H H3 := g1.trans ((Grow.push _ _).trans g3)
  have e3 : [xs, List.replicate (252 - xs.length) (0 : UInt8)].flatten = padB xs := by simp [padB]
  rw [e3] at o3 ⊢
  refine ⟨_, _, _, rfl, (packSum_spec o3.bs).mono ?_⟩
  rintro _ _ ⟨rfl, rfl⟩
  refine ⟨_, rfl, (packPut_spec o3.bs (by rw [padB_length (by omega)]; omega) _ 4).mono fun v H4 h4 => ?_⟩
  obtain ⟨g4, p4, c4, rfl, o4⟩ := h4.before g2
  refine ⟨_, _, _, rfl, ?_⟩
  have hw : IntKind.wrap .u64 (fnv (padB xs) : Int) = fnv (padB xs) := wrap_u64 (by omega) (by have := fnv_lt (padB xs); omega)
  have hp : putN (padB xs) (IntKind.wrap .u64 (fnv (padB xs) : Int)) 4 = sealB xs := by rw [hw, putN, if_neg (by omega)]; rfl
  rw [hp] at o4 ⊢
  rw [if_pos (by omega)]
  exact ⟨g4, p4, c4, rfl, o4⟩
def sealed (xs : Bytes) : Bool := xs.length == 256 && leVal (xs.drop 252) == fnv (xs.take 252)
def openB (xs : Bytes) : Bytes := if sealed xs then xs.take 252 else []
theorem packOpen_spec {N : Fp} {p : Option Addr} {n c : Nat} {xs : Bytes} {H : Heap} (h : Bs N H p n c xs) : HC Try.prog F.pack_Open #[.slice p n c] H (NewBb H (openB xs) (sealed xs)) := by
  obtain rfl := h.len
  have hc := h.cap
  have hbad : sealed xs = false → NewBb H (openB xs) (sealed xs) (.tuple #[.slice none 0 0, .bool false]) H := fun hh => by rw [openB, hh]; exact .nil _ _
  refine packOpen_vc p _ c H _ (br_bne (fun h1 => hbad ?_) fun h1 => (packGet_spec h 252 4).mono ?_)
  · rw [sealed, Bool.and_eq_false_iff]; left; simp; omega
  rintro _ _ ⟨rfl, rfl⟩
  have hl : xs.length = 256 := by omega
  refine ⟨_, _, rfl, ⟨⟨by omega, by simp only [bnd]; omega⟩, (packSum_spec (h.part (lo := 0) (hi := 252) (by omega) (by omega))).mono ?_⟩⟩
  rintro _ _ ⟨rfl, rfl⟩
  have hg : getN xs 252 4 = (leVal (xs.drop 252), true) := by
    rw [getN, if_neg (by omega), List.take_of_length_le]; rfl
    simp; omega
  have hlt : leVal (xs.drop 252) < 256 ^ 4 := by have := leVal_lt (xs.drop 252); rwa [show (xs.drop 252).length = 4 by simp; omega] at this
  rw [hg, wrap_u32 (by omega) (by simp only; omega)]
  refine ⟨_, rfl, br_bne (fun h2 => hbad ?_) fun h2 => ⟨⟨by omega, by simp only [bnd]; omega⟩, (clone_spec (h.part (lo := 0) (hi := 252) (by omega) (by omega))).mono ?_⟩⟩
  · rw [sealed, Bool.and_eq_false_iff]; right; simp only [beq_eq_false_iff_ne]; intro e; apply h2; rw [e]; rfl
  rintro _ H9 ⟨g9, p9, c9, rfl, o9⟩
  have hs : sealed xs = true := by
    rw [sealed, hl]; simp only [beq_self_eq_true, Bool.true_and, beq_iff_eq]
    have : (leVal (xs.drop 252) : Int) = fnv ((xs.take 252).drop 0) := h2
    rw [List.drop_zero] at this; omega
  rw [openB, hs]
  exact ⟨_, _, _, rfl, g9, p9, c9, rfl, o9⟩
end Go.Proofs.Ash
