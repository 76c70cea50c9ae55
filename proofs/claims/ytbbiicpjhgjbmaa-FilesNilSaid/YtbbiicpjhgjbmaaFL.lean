/-
  Parts of a proof: see the row.
-/
import Derived.Test.YtbbiicpjhgjbmaaFP
import Derived.Test.YtbbiicpjhgjbmaaVcRow
namespace Go.Proofs.Ytbbiicpjhgjbmaa
open Go Go.Vc Go.Proofs
def fresh : List Fd := List.replicate 8 (0, 0, false)
theorem new_spec (H : Heap) : HC Try.prog 7 #[] H fun v H' => v = .pointer (some ⟨H.size, 0, none⟩) ∧ FdsAt H' H.size 0 44 fresh ∧ Old H.size H H' ∧ H'.size = H.size + 1 := by
  refine new_vc H _ ?_
  rintro r H' rfl rfl
  exact ⟨rfl, ⟨rfl, [], rfl, hpush_new H _⟩, Old.push _ (Nat.le_refl _), by simp⟩
theorem awake_spec (H : Heap) : HC Try.prog 6 #[] H (Tells H) := by
  refine awake_vc H _ ((new_spec H).mono ?_)
  rintro _ H1 ⟨rfl, hf, ho, _⟩
  refine ⟨_, rfl, (open_spec hf 5).mono ?_⟩
  rintro _ H2 ⟨ho2, hf2, rfl⟩
  refine ⟨_, _, rfl, br_true rfl (br_true (by decide) (br_true (by decide) ((len_spec hf2).mono ?_)))⟩
  rintro _ _ ⟨rfl, rfl⟩
  exact ⟨_, rfl, rfl, ho.trans (ho2.old (Nat.le_refl _))⟩
theorem open0_spec (ino : Int) (H : Heap) : HC Try.prog 8 #[.pointer none, .int .i64 ino] H fun v H' => H = H' ∧ v = .tuple #[.int .i64 0, .int .i64 1] := open0_vc _ _ _ ⟨rfl, rfl⟩
theorem close0_spec (fd : Int) (H : Heap) : HC Try.prog 9 #[.pointer none, .int .i64 fd] H fun v H' => H = H' ∧ v = .tuple #[.int .i64 0, .int .i64 1] := close0_vc _ _ _ ⟨rfl, rfl⟩
theorem get0_spec (fd : Int) (H : Heap) : HC Try.prog 14 #[.pointer none, .int .i64 fd] H fun v H' => H = H' ∧ v = .tuple #[.int .i64 0, .int .i64 0, .int .i64 1] := get0_vc _ _ _ ⟨rfl, rfl⟩
theorem find0_spec (fd : Int) (H : Heap) : HC Try.prog 16 #[.pointer none, .int .i64 fd] H fun v H' => H = H' ∧ v = .pointer none := find0_vc _ _ _ ⟨rfl, rfl⟩
theorem most0_spec (H : Heap) : HC Try.prog 17 #[.pointer none] H fun v H' => H = H' ∧ v = .int .i64 0 := most0_vc _ _ ⟨rfl, rfl⟩
theorem seek0_spec (fd a : Int) (H : Heap) : HC Try.prog 15 #[.pointer none, .int .i64 fd, .int .i64 a] H fun v H' => H = H' ∧ v = .int .i64 1 := by
  refine seek0_vc _ _ _ _ ((find0_spec fd H).mono ?_)
  rintro _ _ ⟨rfl, rfl⟩
  exact ⟨_, rfl, rfl, rfl⟩
theorem uses0_spec (ino : Int) (H : Heap) : HC Try.prog 12 #[.pointer none, .int .i64 ino] H fun v H' => H = H' ∧ v = .int .i64 0 := by
  refine uses0_vc _ _ _ ((most0_spec H).mono ?_)
  rintro _ _ ⟨rfl, rfl⟩
  refine ⟨_, rfl, fun a i H' => H = H' ∧ a = 0 ∧ i = 0, fun _ _ _ => 0, ⟨rfl, rfl, rfl⟩, ?_⟩
  rintro _ _ _ _ ⟨rfl, rfl, rfl⟩
  exact br_neg (by omega) ⟨rfl, rfl⟩
theorem len0_spec (H : Heap) : HC Try.prog 10 #[.pointer none] H fun v H' => H = H' ∧ v = .int .i64 0 := by
  refine len0_vc _ _ ((most0_spec H).mono ?_)
  rintro _ _ ⟨rfl, rfl⟩
  refine ⟨_, rfl, fun a i H' => H = H' ∧ a = 0 ∧ i = 0, fun _ _ _ => 0, ⟨rfl, rfl, rfl⟩, ?_⟩
  rintro _ _ _ _ ⟨rfl, rfl, rfl⟩
  exact br_neg (by omega) ⟨rfl, rfl⟩
theorem lawNil_spec (k n a : Int) (H : Heap) : HC Try.prog 5 #[.agg #[.int .i64 k, .int .i64 n, .int .i64 a]] H (Tells H) := by
  refine lawNil_vc k n a H _ ?_
  rintro r H1 rfl rfl
  have hr := hpush_new H (.cells #[.int .i64 k, .int .i64 n, .int .i64 a] 47 (0, 0))
  have ho := Old.push (B := H.size) (.cells #[.int .i64 k, .int .i64 n, .int .i64 a] 47 (0, 0)) (Nat.le_refl H.size)
  have hlt := hlt_of_block hr
  generalize H.push (.cells #[.int .i64 k, .int .i64 n, .int .i64 a] 47 (0, 0)) = H1 at *
  refine (awake_spec H1).mono ?_
  rintro _ H2 ⟨rfl, ho2⟩
  have hr2 := (ho2.block _ hlt).trans hr
  have e1 : hcell H2 ⟨H.size, 1, none⟩ = some (.int .i64 n) := by rw [hcell_cells hr2]; rfl
  have e2 : hcell H2 ⟨H.size, 2, none⟩ = some (.int .i64 a) := by rw [hcell_cells hr2]; rfl
  have hall := ho.trans (ho2.mono (Nat.le_of_lt hlt))
  refine ⟨_, rfl, n, e1, (open0_spec _ _).mono ?_⟩
  rintro _ _ ⟨rfl, rfl⟩
  refine ⟨_, _, rfl, n, e1, (close0_spec _ _).mono ?_⟩
  rintro _ _ ⟨rfl, rfl⟩
  refine ⟨_, _, rfl, n, e1, (get0_spec _ _).mono ?_⟩
  rintro _ _ ⟨rfl, rfl⟩
  refine ⟨_, _, _, rfl, n, e1, a, e2, (seek0_spec _ _ _).mono ?_⟩
  rintro _ _ ⟨rfl, rfl⟩
  refine ⟨_, rfl, n, e1, (uses0_spec _ _).mono ?_⟩
  rintro _ _ ⟨rfl, rfl⟩
  refine ⟨_, rfl, br_true rfl ((len0_spec _).mono ?_)⟩
  rintro _ _ ⟨rfl, rfl⟩
  exact ⟨_, rfl, rfl, hall⟩
/-- a slice of operations that came in -/
def Script (H : Heap) (p : Option Addr) (n : Nat) : Prop :=
  n = 0 ∨ ∃ b o, p = some ⟨b, o, none⟩ ∧ b < H.size ∧ ∀ i, i < n → ∃ k m a, hcell H ⟨b, o + i * 3, none⟩ = some (.int .i64 k) ∧ hcell H ⟨b, o + i * 3 + 1, none⟩ = some (.int .i64 m) ∧ hcell H ⟨b, o + i * 3 + 2, none⟩ = some (.int .i64 a)
theorem lawPlay_spec {H : Heap} {p : Option Addr} {n : Nat} (c : Nat) (z : Bool) (hs : Script H p n) : HC Try.prog 4 #[.slice p n c, .bool z] H (Tells H) := by
  refine lawPlay_vc p n c z H _ ((awake_spec H).mono ?_)
  rintro _ H1 ⟨rfl, ho1⟩
  refine ⟨_, rfl, br_dec (fun _ => (awake_spec H1).mono ?_) fun hn => (new_spec H1).mono ?_⟩
  · rintro _ H2 ⟨rfl, ho2⟩
    exact ⟨_, rfl, rfl, ho1.trans (ho2.mono ho1.size)⟩
  rintro _ H2 ⟨rfl, hf, ho2, hs2⟩
  have ho2 := ho1.trans (ho2.mono ho1.size)
  refine ⟨_, rfl, ?_⟩
  rintro r H3 rfl rfl
  have hw : FdsAt (H2.push (.cells #[.pointer none, .int .i64 0, .int .i64 0, .bool false, .int .i64 0, .int .i64 0, .bool false, .int .i64 0, .int .i64 0, .bool false, .int .i64 0, .int .i64 0, .bool false, .int .i64 0, .int .i64 0, .bool false, .int .i64 0, .int .i64 0, .bool false, .int .i64 0, .int .i64 0, .bool false, .int .i64 0, .int .i64 0, .bool false] 39 (0, 0))) H2.size 1 39 fresh :=
    ⟨rfl, [.pointer none], rfl, hpush_new H2 _⟩
  have hf := hf.push (.cells #[.pointer none, .int .i64 0, .int .i64 0, .bool false, .int .i64 0, .int .i64 0, .bool false, .int .i64 0, .int .i64 0, .bool false, .int .i64 0, .int .i64 0, .bool false, .int .i64 0, .int .i64 0, .bool false, .int .i64 0, .int .i64 0, .bool false, .int .i64 0, .int .i64 0, .bool false, .int .i64 0, .int .i64 0, .bool false] 39 (0, 0))
  have ho3 := ho2.trans (Old.push (B := H.size) (.cells #[.pointer none, .int .i64 0, .int .i64 0, .bool false, .int .i64 0, .int .i64 0, .bool false, .int .i64 0, .int .i64 0, .bool false, .int .i64 0, .int .i64 0, .bool false, .int .i64 0, .int .i64 0, .bool false, .int .i64 0, .int .i64 0, .bool false, .int .i64 0, .int .i64 0, .bool false, .int .i64 0, .int .i64 0, .bool false] 39 (0, 0)) ho2.size)
  have hlw := hw.lt
  generalize H2.push (.cells #[.pointer none, .int .i64 0, .int .i64 0, .bool false, .int .i64 0, .int .i64 0, .bool false, .int .i64 0, .int .i64 0, .bool false, .int .i64 0, .int .i64 0, .bool false, .int .i64 0, .int .i64 0, .bool false, .int .i64 0, .int .i64 0, .bool false, .int .i64 0, .int .i64 0, .bool false, .int .i64 0, .int .i64 0, .bool false] 39 (0, 0)) = H3 at *
  have hb1 := ho1.size
  have hb2 := ho2.size
  refine ⟨fun q H' => ∃ b, q = some ⟨b, 0, none⟩ ∧ b ≠ H2.size ∧ H.size ≤ b ∧ FdsAt H' b 0 44 fresh ∧ FdsAt H' H2.size 1 39 fresh ∧ Old H.size H H', br_intro (fun _ => ?_) fun _ => ⟨_, rfl, by omega, hb1, hf, hw, ho3⟩, ?_⟩
  · rintro r H4 rfl rfl
    exact ⟨_, rfl, by omega, by have := ho3.size; omega, ⟨rfl, [], rfl, hpush_new H3 _⟩, hw.push _, ho3.trans (Old.push _ ho3.size)⟩
  rintro _ H4 q ⟨b, rfl, hbne, hbB, hf, hw, ho4⟩
  refine ⟨fun i H' => 0 ≤ i ∧ i ≤ n ∧ Old H.size H H' ∧ ∃ s, FdsAt H' b 0 44 s ∧ FdsAt H' H2.size 1 39 s, fun i _ => (n - i).toNat, ⟨by omega, by omega, ho4, _, hf, hw⟩, ?_⟩
  rintro _ H5 i ⟨h0, hin, ho5, s, hf, hw⟩
  refine br_dec (fun hi => ⟨⟨h0, hi⟩, ?_⟩) fun _ => ⟨rfl, ho5⟩
  rcases hs with hs | ⟨bs, os, rfl, hbs, hcells⟩
  · omega
  obtain ⟨k, m, a, c0, c1, c2⟩ := hcells i.toNat (by omega)
  have o0 : ∀ H', Old H.size H H' → ∀ o v, hcell H ⟨bs, o, none⟩ = some v → hcell H' ⟨bs, o, none⟩ = some v := fun H' h o v e => (h.cell (a := ⟨bs, o, none⟩) hbs).trans e
  refine ⟨k, o0 _ ho5 _ _ c0, m, o0 _ ho5 _ _ c1, a, o0 _ ho5 _ _ c2, (do_spec hf hw hbne k m a).mono ?_⟩
  rintro _ H6 ⟨rfl, htw, s', hf6, hw6⟩
  have ho6 := ho5.trans (htw.old ho5.size hbB hb2)
  refine ⟨_, rfl, ⟨h0, hi⟩, m, o0 _ ho6 _ _ c1, callQ_of (uses_spec hf6 m) ⟨_, rfl, ⟨h0, hi⟩, m, o0 _ ho6 _ _ c1, callQ_of (wuses_spec hw6 m) ⟨_, rfl, br_bne (fun h => absurd rfl h) fun _ => ?_⟩⟩⟩
  refine ⟨fun x j H' => H6 = H' ∧ 0 ≤ j ∧ j ≤ 8 ∧ x = many (·.2.2) (s'.take j.toNat), fun _ j _ => (8 - j).toNat, ⟨rfl, by omega, by omega, rfl⟩, ?_⟩
  rintro _ _ x j ⟨rfl, j0, j8, rfl⟩
  have hsz := many_succ (·.2.2) s' j.toNat
  have hb := many_le (·.2.2) (s'.take j.toNat)
  have hb2 : (s'.take j.toNat).length ≤ 8 := by rw [List.length_take, hf6.len]; omega
  refine br_dec (fun hj => ⟨⟨j0, hj⟩, _, hw6.c2 j.toNat (by omega), ?_⟩) fun hj => (len_spec hf6).mono ?_
  · have hsz := hsz (by rw [hf6.len]; omega)
    have ei : (j + 1).toNat = j.toNat + 1 := by omega
    rw [wrap_i64 (n := j + 1) (by omega) (by omega), wrap_i64 (by omega) (by omega)]
    refine br_intro (fun hu => ⟨⟨rfl, by omega, by omega, ?_⟩, by simp only [ltK]; omega⟩) fun hu => ⟨⟨rfl, by omega, by omega, ?_⟩, by simp only [ltK]; omega⟩
    · rw [ei, hsz]; simp [hu]
    · rw [ei, hsz]; simp [hu]
  · rintro _ _ ⟨rfl, rfl⟩
    refine ⟨_, rfl, br_bne (fun h => absurd (by rw [List.take_of_length_le (by rw [hf6.len]; omega)]) h) fun _ => ?_⟩
    rw [wrap_i64 (by omega) (by omega)]
    exact ⟨⟨by omega, by omega, ho6, s', hf6, hw6⟩, by simp only [ltK]; omega⟩
/-- a slice of bytes that came in -/
def Bytes (H : Heap) (p : Option Addr) (n : Nat) : Prop := n = 0 ∨ ∃ b o, p = some ⟨b, o, none⟩ ∧ b < H.size ∧ ∀ i, i < n → ∃ k : Int, 0 ≤ k ∧ k ≤ 255 ∧ hcell H ⟨b, o + i, none⟩ = some (.int .u8 k)
/-- eight truth values in a block -/
def boolCells (u : List Bool) : List Value := u.map .bool
structure BoolsAt (H : Heap) (b : Nat) (u : List Bool) : Prop where
  len : u.length = 8
  at_ : H[b]? = some (.cells (boolCells u).toArray 26 (0, 0))
theorem BoolsAt.cell {H b u} (h : BoolsAt H b u) (k : Nat) (hk : k < 8) : hcell H ⟨b, 0 + k * 1, none⟩ = some (.bool (u.getD k false)) := by
  have hl := h.len
  rw [hcell_cells h.at_]
  simp [boolCells, List.getD_eq_getElem?_getD, show k < u.length by omega]
theorem BoolsAt.set {H b u} (h : BoolsAt H b u) {k : Nat} (hk : k < 8) {x : Bool} {K : Heap → Prop} (hK : ∀ H', Only b H H' → BoolsAt H' b (u.set k x) → K H') : stV ⟨b, 0 + k * 1, none⟩ (.bool x) H K := by
  have hl := h.len
  refine stV_cells h.at_ (by simp [boolCells]; omega) rfl fun H' e1 e2 e3 => hK H' ⟨e1, e2⟩ ⟨by simp [hl], ?_⟩
  rw [e3]; simp [boolCells, List.map_set]
theorem BoolsAt.of_only {H H' b c u} (h : BoolsAt H b u) (ho : Only c H H') (hbc : b ≠ c) : BoolsAt H' b u := ⟨h.len, by rw [ho.2 b hbc]; exact h.at_⟩
def usedOf (s : List Fd) : List Bool := s.map (·.2.2)
theorem usedOf_get (s : List Fd) (k : Nat) : (usedOf s).getD k false = (fdAt s k).2.2 := by
  unfold usedOf fdAt
  simp only [List.getD_eq_getElem?_getD, List.getElem?_map]
  cases s[k]? <;> rfl
theorem usedOf_set (s : List Fd) (k : Nat) (x : Fd) : usedOf (s.set k x) = (usedOf s).set k x.2.2 := by unfold usedOf; exact List.map_set
theorem set_getD_self (u : List Bool) (k : Nat) (h : k < u.length) : u.set k (u.getD k false) = u := by
  apply List.ext_getElem?
  intro j
  rw [List.getElem?_set]
  split
  · subst_vars; simp [List.getD_eq_getElem?_getD, h]
  · rfl
theorem lawLeast_spec {H : Heap} {p q : Option Addr} {n m : Nat} (c d : Nat) (hp : Bytes H p n) (hq : Bytes H q m) : HC Try.prog 3 #[.slice p n c, .slice q m d] H (Tells H) := by
  refine lawLeast_vc p n c q m d H _ ((awake_spec H).mono ?_)
  rintro _ H1 ⟨rfl, ho1⟩
  refine ⟨_, rfl, br_dec (fun _ => (awake_spec H1).mono ?_) fun hn => br_dec (fun _ => (awake_spec H1).mono ?_) fun hm => (new_spec H1).mono ?_⟩
  · rintro _ H2 ⟨rfl, ho2⟩
    exact ⟨_, rfl, rfl, ho1.trans (ho2.mono ho1.size)⟩
  · rintro _ H2 ⟨rfl, ho2⟩
    exact ⟨_, rfl, rfl, ho1.trans (ho2.mono ho1.size)⟩
  rintro _ H2 ⟨rfl, hf, ho2, hs2⟩
  have hoA := ho1.trans (ho2.mono ho1.size)
  have hb1 := ho1.size
  have hb2 := hoA.size
  refine ⟨_, rfl, ?_⟩
  rintro r H3 rfl rfl
  generalize hB : H1.size = b at *
  refine ⟨fun i H' => 0 ≤ i ∧ i ≤ m ∧ Old H.size H H' ∧ ∃ s, FdsAt H' b 0 44 s ∧ BoolsAt H' H2.size (usedOf s), fun i _ => (m - i).toNat, ⟨by omega, by omega, hoA.trans (Old.push _ hb2), fresh, hf.push _, ⟨rfl, hpush_new H2 _⟩⟩, ?_⟩
  rintro _ H4 i ⟨h0, him, ho4, s, hf, hu⟩
  have o0 : ∀ H', Old H.size H H' → ∀ bb, bb < H.size → ∀ o v, hcell H ⟨bb, o, none⟩ = some v → hcell H' ⟨bb, o, none⟩ = some v := fun H' h bb hbb o v e => (h.cell (a := ⟨bb, o, none⟩) hbb).trans e
  have hbr : b ≠ H2.size := by omega
  refine br_dec (fun hi => ?_) fun _ => ?_
  · -- the least one, by the law itself
    refine ⟨fun l H' => H4 = H' ∧ l = least s, ⟨fun l H' => H4 = H' ∧ 0 ≤ l ∧ l ≤ 8 ∧ ∀ j, j < l.toNat → (fdAt s j).2.2 = true, fun l _ => (8 - l).toNat, ⟨rfl, by omega, by omega, fun j hj => by omega⟩, ?_⟩, ?_⟩
    · rintro _ _ l ⟨rfl, l0, l8, hall⟩
      refine br_dec (fun hl => ⟨⟨l0, hl⟩, _, hu.cell l.toNat (by omega), ?_⟩) fun hl => ⟨rfl, ?_⟩
      · rw [usedOf_get]
        refine br_intro (fun ht => ?_) fun ht => ⟨rfl, ?_⟩
        · rw [wrap_i64 (by omega) (by omega)]
          refine ⟨⟨rfl, by omega, by omega, fun j hj => ?_⟩, by simp only [ltK]; omega⟩
          by_cases e : j < l.toNat
          · exact hall j e
          · rw [show j = l.toNat by omega]; exact ht
        · rw [least_at hf.len (by omega) ht hall]; omega
      · rw [least_none hf.len (fun j hj => hall j (by omega))]; omega
    rintro _ _ l ⟨rfl, rfl⟩
    rcases hq with hq | ⟨bq, oq, rfl, hbq, hcells⟩
    · omega
    obtain ⟨k, k0, k255, hk⟩ := hcells i.toNat (by omega)
    have ek : IntKind.wrap .i64 (1 + IntKind.wrap .i64 (Int.tmod k 47)) = 1 + k % 47 := by
      rw [Int.tmod_eq_emod_of_nonneg k0, wrap_i64 (n := k % 47) (by omega) (by omega), wrap_i64 (by omega) (by omega)]
    refine ⟨⟨h0, hi⟩, k, by rw [Nat.mul_one]; exact o0 _ ho4 _ hbq _ _ hk, (open_spec hf _).mono ?_⟩
    rw [ek]
    rintro _ H5 ⟨hon, hf5, rfl⟩
    rw [opened, if_neg (by omega)] at hf5 ⊢
    have hu5 := hu.of_only hon hbr.symm
    have ho5 := ho4.trans (hon.old (B := H.size) (by omega))
    refine ⟨_, _, rfl, fun H' => Old H.size H H' ∧ ∃ s, FdsAt H' b 0 44 s ∧ BoolsAt H' H2.size (usedOf s), br_beq (fun h8 => ?_) fun h8 => ?_, ?_⟩
    · rw [if_neg (by omega)] at hf5 ⊢
      exact br_bne (fun h => absurd rfl h) fun _ => ⟨ho5, _, hf5, hu5⟩
    · have hl8 : least s < 8 := by
        have : least s ≤ s.length := List.findIdx_le_length
        rw [hf.len] at this; omega
      rw [if_pos hl8] at hf5 ⊢
      refine br_bne (fun h => absurd rfl h) fun _ => br_bne (fun h => absurd rfl h) fun _ => ⟨⟨by omega, by omega⟩, ?_⟩
      refine hu5.set (by omega) fun H6 hon6 hu6 => ⟨ho5.trans (hon6.old (by omega)), _, hon6.fds hbr hf5, ?_⟩
      rw [usedOf_set]; exact hu6
    rintro _ H6 ⟨ho6, s6, hf6, hu6⟩
    refine br_dec (fun hin => ?_) fun _ => ?_
    · rcases hp with hp | ⟨bp, op, rfl, hbp, hcells⟩
      · omega
      obtain ⟨k, k0, k255, hk⟩ := hcells i.toNat (by omega)
      have ek : IntKind.wrap .i64 (Int.tmod k 8) = k % 8 := by
        rw [Int.tmod_eq_emod_of_nonneg k0, wrap_i64 (by omega) (by omega)]
      refine ⟨⟨h0, hin⟩, k, by rw [Nat.mul_one]; exact o0 _ ho6 _ hbp _ _ hk, ?_⟩
      simp only [ek]
      refine (close_spec hf6 _).mono ?_
      rintro _ H7 ⟨hon, hf7, rfl⟩
      have hu7 := hu6.of_only hon hbr.symm
      have ho7 := ho6.trans (hon.old (B := H.size) (by omega))
      refine ⟨_, _, rfl, ⟨by omega, by omega⟩, _, hu7.cell (k % 8).toNat (by omega), ?_⟩
      rw [usedOf_get]
      have hcl : ((closed s6 (k % 8)).2.1 == 0) = (fdAt s6 (k % 8).toNat).2.2 := by
        unfold closed
        by_cases hk : ok s6 (k % 8)
        · rw [if_pos hk, hk.2.2]; rfl
        · rw [if_neg hk]
          cases hz : (fdAt s6 (k % 8).toNat).2.2 with
          | false => rfl
          | true => exact absurd ⟨by omega, by omega, hz⟩ hk
      refine br_false (by rw [hcl]; simp) ⟨⟨by omega, by omega⟩, ?_⟩
      refine hu7.set (by omega) fun H8 hon8 hu8 => ⟨⟨by rw [wrap_i64 (by omega) (by omega)]; omega, by rw [wrap_i64 (by omega) (by omega)]; omega, ho7.trans (hon8.old (by omega)), _, hon8.fds hbr hf7, ?_⟩, by rw [wrap_i64 (by omega) (by omega)]; simp only [ltK]; omega⟩
      unfold closed
      by_cases hk : ok s6 (k % 8)
      · rw [if_pos hk, usedOf_set]; exact hu8
      · rw [if_neg hk]
        have hl : (usedOf s6).length = 8 := by rw [usedOf, List.length_map, hf6.len]
        have hz : (usedOf s6).getD (k % 8).toNat false = false := by
          rw [usedOf_get]
          cases hz : (fdAt s6 (k % 8).toNat).2.2 with
          | false => rfl
          | true => exact absurd ⟨by omega, by omega, hz⟩ hk
        have := set_getD_self (usedOf s6) (k % 8).toNat (by omega)
        rw [hz] at this; rw [this] at hu8; exact hu8
    · exact ⟨⟨by rw [wrap_i64 (by omega) (by omega)]; omega, by rw [wrap_i64 (by omega) (by omega)]; omega, ho6, s6, hf6, hu6⟩, by rw [wrap_i64 (by omega) (by omega)]; simp only [ltK]; omega⟩
  · refine ⟨fun x j H' => H4 = H' ∧ 0 ≤ j ∧ j ≤ 8 ∧ x = many (·.2.2) (s.take j.toNat), fun _ j _ => (8 - j).toNat, ⟨rfl, by omega, by omega, rfl⟩, ?_⟩
    rintro _ _ x j ⟨rfl, j0, j8, rfl⟩
    have hsz := many_succ (·.2.2) s j.toNat
    have hb := many_le (·.2.2) (s.take j.toNat)
    have hb2 : (s.take j.toNat).length ≤ 8 := by rw [List.length_take, hf.len]; omega
    refine br_dec (fun hj => ⟨⟨j0, hj⟩, _, hu.cell j.toNat (by omega), ?_⟩) fun hj => (len_spec hf).mono ?_
    · have hsz := hsz (by rw [hf.len]; omega)
      have ei : (j + 1).toNat = j.toNat + 1 := by omega
      rw [wrap_i64 (n := j + 1) (by omega) (by omega), wrap_i64 (by omega) (by omega), usedOf_get]
      refine br_intro (fun hu => ⟨⟨rfl, by omega, by omega, ?_⟩, by simp only [ltK]; omega⟩) fun hu => ⟨⟨rfl, by omega, by omega, ?_⟩, by simp only [ltK]; omega⟩
      · rw [ei, hsz]; simp [hu]
      · rw [ei, hsz]; simp [hu]
    · rintro _ _ ⟨rfl, rfl⟩
      refine ⟨_, rfl, ?_, ho4⟩
      rw [List.take_of_length_le (by rw [hf.len]; omega)]; simp
/-! ## as the rows hand it -/
theorem nil_walk {H : Heap} {cs : Array Value} (h : FlatOk (kindsOf Try.prog 20 47) cs.toList) : HC Try.prog 5 #[.agg cs] H (Tells H) := by
  have e : kindsOf Try.prog 20 47 = [.int .i64, .int .i64, .int .i64] := by kernel_rfl
  rw [e] at h
  obtain ⟨cs⟩ := cs
  obtain ⟨_, _, hc, ⟨k, rfl, _⟩, h1⟩ := h.cons_of
  obtain ⟨_, _, rfl, ⟨n, rfl, _⟩, h2⟩ := h1.cons_of
  obtain ⟨_, _, rfl, ⟨a, rfl, _⟩, h3⟩ := h2.cons_of
  obtain rfl := h3.nil_of
  obtain rfl : cs = _ := hc
  exact lawNil_spec k n a H
theorem play_walk {H : Heap} {p : Option Addr} {n c : Nat} {z : Bool} (h : SlFlat (kindsOf Try.prog 20 47) H p n c) : HC Try.prog 4 #[.slice p n c, .bool z] H (Tells H) := by
  have e : kindsOf Try.prog 20 47 = [.int .i64, .int .i64, .int .i64] := by kernel_rfl
  rw [e] at h
  refine lawPlay_spec c z ?_
  rcases h with h | ⟨b, o, rfl, hb, _, _, hc⟩
  · exact .inl h.1
  · refine .inr ⟨b, o, rfl, hb, fun i hi => ?_⟩
    obtain ⟨cs, hf, hg⟩ := hc i hi
    have g0 := hg 0 (by simp)
    have g1 := hg 1 (by simp)
    have g2 := hg 2 (by simp)
    obtain ⟨_, _, rfl, ⟨k, rfl, _⟩, h1⟩ := hf.cons_of
    obtain ⟨_, _, rfl, ⟨m, rfl, _⟩, h2⟩ := h1.cons_of
    obtain ⟨_, _, rfl, ⟨a, rfl, _⟩, h3⟩ := h2.cons_of
    exact ⟨k, m, a, g0, g1, g2⟩
theorem bytes_of {H : Heap} {p : Option Addr} {n c : Nat} (h : SlFlat (kindsOf Try.prog 20 5) H p n c) : Bytes H p n := by
  have e : kindsOf Try.prog 20 5 = [.int .u8] := by kernel_rfl
  rw [e] at h
  rcases h with h | ⟨b, o, rfl, hb, _, _, hc⟩
  · exact .inl h.1
  · refine .inr ⟨b, o, rfl, hb, fun i hi => ?_⟩
    obtain ⟨cs, hf, hg⟩ := hc i hi
    have g0 := hg 0 (by simp)
    obtain ⟨_, _, rfl, ⟨k, rfl, hw⟩, hf⟩ := hf.cons_of
    simp [Lit.wf, IntKind.min, IntKind.max, IntKind.signed, IntKind.bits] at hw
    exact ⟨k, by omega, by omega, by simpa using g0⟩
theorem least_walk {H : Heap} {p q : Option Addr} {n m c d : Nat} (hp : SlFlat (kindsOf Try.prog 20 5) H p n c) (hq : SlFlat (kindsOf Try.prog 20 5) H q m d) :
    HC Try.prog 3 #[.slice p n c, .slice q m d] H (Tells H) := lawLeast_spec c d (bytes_of hp) (bytes_of hq)
end Go.Proofs.Ytbbiicpjhgjbmaa
