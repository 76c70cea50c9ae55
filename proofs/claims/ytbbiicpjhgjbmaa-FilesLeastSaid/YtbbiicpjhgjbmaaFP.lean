/-
  Parts of a proof: see the row.
-/
import Derived.Test.YtbbiicpjhgjbmaaFV
import Derived.Test.YtbbiicpjhgjbmaaVcLib
namespace Go.Proofs.Ytbbiicpjhgjbmaa
open Go Go.Vc Go.Proofs

/-! ## eight descriptors -/
abbrev Fd := Int × Int × Bool
def fdCells (s : List Fd) : List Value := s.flatMap fun x => [.int .i64 x.1, .int .i64 x.2.1, .bool x.2.2]
def fdAt (s : List Fd) (k : Nat) : Fd := s.getD k (0, 0, false)
theorem fdCells_len (s : List Fd) : (fdCells s).length = s.length * 3 := by
  induction s with
  | nil => rfl
  | cons a s ih => simp only [fdCells, List.flatMap_cons, List.length_append, List.length_cons, List.length_nil] at ih ⊢; omega
theorem fdCells_get (s : List Fd) (k : Nat) (h : k < s.length) :
    (fdCells s)[k * 3]? = some (.int .i64 (fdAt s k).1) ∧ (fdCells s)[k * 3 + 1]? = some (.int .i64 (fdAt s k).2.1) ∧ (fdCells s)[k * 3 + 2]? = some (.bool (fdAt s k).2.2) := by
  induction s generalizing k with
  | nil => simp at h
  | cons a s ih =>
    cases k with
    | zero => simp [fdCells, fdAt]
    | succ k =>
      have := ih k (by simpa using h)
      have e0 : (k + 1) * 3 = k * 3 + 3 := by omega
      rw [e0]
      simp only [fdCells, List.flatMap_cons, fdAt] at this ⊢
      simpa using this
theorem fdCells_set (s : List Fd) (k : Nat) (x : Fd) (h : k < s.length) :
    (((fdCells s).set (k * 3) (.int .i64 x.1)).set (k * 3 + 1) (.int .i64 x.2.1)).set (k * 3 + 2) (.bool x.2.2) = fdCells (s.set k x) := by
  induction s generalizing k with
  | nil => simp at h
  | cons a s ih =>
    cases k with
    | zero => simp [fdCells]
    | succ k =>
      have := ih k (by simpa using h)
      have e0 : (k + 1) * 3 = k * 3 + 3 := by omega
      rw [e0]
      simp only [fdCells, List.flatMap_cons, List.set_cons_succ] at this ⊢
      simp only [List.cons_append, List.nil_append, List.set_cons_succ]
      rw [this]
/-- the descriptors stand from cell 'o' on in block b -/
structure FdsAt (H : Heap) (b o : Nat) (T : TypeId) (s : List Fd) : Prop where
  len : s.length = 8
  at_ : ∃ c : List Value, c.length = o ∧ H[b]? = some (.cells (c ++ fdCells s).toArray T (0, 0))
theorem FdsAt.cell {H b o T s} (h : FdsAt H b o T s) (i : Nat) : hcell H ⟨b, o + i, none⟩ = (fdCells s)[i]? := by
  obtain ⟨c, hc, h⟩ := h.at_
  rw [hcell_cells h]; simp only [List.getElem?_toArray]
  rw [List.getElem?_append_right (by omega)]; congr 1; omega
theorem FdsAt.c0 {H b o T s} (h : FdsAt H b o T s) (k : Nat) (hk : k < 8) : hcell H ⟨b, o + k * 3, none⟩ = some (.int .i64 (fdAt s k).1) := by
  rw [h.cell]; exact (fdCells_get s k (by rw [h.len]; exact hk)).1
theorem FdsAt.c1 {H b o T s} (h : FdsAt H b o T s) (k : Nat) (hk : k < 8) : hcell H ⟨b, o + k * 3 + 1, none⟩ = some (.int .i64 (fdAt s k).2.1) := by
  rw [Nat.add_assoc, h.cell]; exact (fdCells_get s k (by rw [h.len]; exact hk)).2.1
theorem FdsAt.c2 {H b o T s} (h : FdsAt H b o T s) (k : Nat) (hk : k < 8) : hcell H ⟨b, o + k * 3 + 2, none⟩ = some (.bool (fdAt s k).2.2) := by
  rw [Nat.add_assoc, h.cell]; exact (fdCells_get s k (by rw [h.len]; exact hk)).2.2
/-- only block b has changed -/
def Only (b : Nat) (H H' : Heap) : Prop := H'.size = H.size ∧ ∀ i, i ≠ b → H'[i]? = H[i]?
theorem Only.refl (b : Nat) (H : Heap) : Only b H H := ⟨rfl, fun _ _ => rfl⟩
theorem Only.trans {b : Nat} {x y z : Heap} (h : Only b x y) (k : Only b y z) : Only b x z := ⟨k.1.trans h.1, fun i hi => (k.2 i hi).trans (h.2 i hi)⟩
theorem Only.old {B b : Nat} {H H' : Heap} (h : Only b H H') (hb : B ≤ b) : Old B H H' := ⟨by rw [h.1]; exact Nat.le_refl _, fun k hk => h.2 k (by omega)⟩
theorem Only.fds {H H' b c o T s} (h : Only c H H') (hbc : b ≠ c) (k : FdsAt H b o T s) : FdsAt H' b o T s := ⟨k.len, by obtain ⟨x, h1, h2⟩ := k.at_; exact ⟨x, h1, by rw [h.2 b hbc]; exact h2⟩⟩
theorem FdsAt.st1 {H b o T s} (h : FdsAt H b o T s) {k : Nat} (hk : k < 8) {x : Int} {K : Heap → Prop}
    (hK : ∀ H', Only b H H' → FdsAt H' b o T (s.set k ((fdAt s k).1, x, (fdAt s k).2.2)) → K H') : stV ⟨b, o + k * 3 + 1, none⟩ (.int .i64 x) H K := by
  obtain ⟨c, hc, h2⟩ := h.at_
  have hl := h.len
  have hcl := fdCells_len s
  refine stV_cells h2 (by simp; omega) rfl fun H' e1 e2 e3 => hK H' ⟨e1, e2⟩ ⟨by simp [hl], c, hc, ?_⟩
  rw [e3]; congr 1
  simp only [List.setIfInBounds_toArray, Obj.cells.injEq, and_true, Array.mk.injEq]
  rw [List.set_append_right _ _ (by omega)]; congr 1
  rw [← fdCells_set s k _ (by omega)]
  obtain ⟨g0, g1, g2⟩ := fdCells_get s k (by omega)
  have i0 : k * 3 + 2 < (fdCells s).length := by omega
  have e4 : o + k * 3 + 1 - c.length = k * 3 + 1 := by omega
  rw [e4]
  apply List.ext_getElem?
  intro j
  simp only [List.getElem?_set, List.length_set]
  by_cases j0 : k * 3 + 2 = j
  · subst j0; rw [if_neg (by omega), if_pos rfl, if_pos (by omega), g2]
  · rw [if_neg j0]
    by_cases j1 : k * 3 + 1 = j
    · subst j1; rw [if_pos rfl, if_pos rfl]
    · rw [if_neg j1, if_neg j1]
      by_cases j2 : k * 3 = j
      · subst j2; rw [if_pos rfl, if_pos (by omega), g0]
      · rw [if_neg j2]
theorem FdsAt.st3 {H b o T s} (h : FdsAt H b o T s) {k : Nat} (hk : k < 8) {x y : Int} {z : Bool} {K : Heap → Prop}
    (hK : ∀ H', Only b H H' → FdsAt H' b o T (s.set k (x, y, z)) → K H') :
    stV ⟨b, o + k * 3, none⟩ (.int .i64 x) H fun H1 => stV ⟨b, o + k * 3 + 1, none⟩ (.int .i64 y) H1 fun H2 => stV ⟨b, o + k * 3 + 2, none⟩ (.bool z) H2 K := by
  obtain ⟨c, hc, h2⟩ := h.at_
  have hl := h.len
  have hcl := fdCells_len s
  refine stV_cells h2 (by simp; omega) rfl fun H1 s1 o1 e1 => stV_cells e1 (by simp; omega) rfl fun H2 s2 o2 e2 => stV_cells e2 (by simp; omega) rfl fun H3 s3 o3 e3 =>
    hK H3 ⟨by omega, fun i hi => by rw [o3 i hi, o2 i hi, o1 i hi]⟩ ⟨by simp [hl], c, hc, ?_⟩
  rw [e3]; congr 1
  simp only [List.setIfInBounds_toArray, Obj.cells.injEq, and_true, Array.mk.injEq]
  rw [List.set_append_right _ _ (by omega), List.set_append_right _ _ (by omega), List.set_append_right _ _ (by omega), ← fdCells_set s k (x, y, z) (by omega)]
  rw [show o + k * 3 - c.length = k * 3 by omega, show o + k * 3 + 1 - c.length = k * 3 + 1 by omega, show o + k * 3 + 2 - c.length = k * 3 + 2 by omega]

/-! ## what the calls answer -/
def ok (s : List Fd) (fd : Int) : Prop := 0 ≤ fd ∧ fd < 8 ∧ (fdAt s fd.toNat).2.2 = true
instance (s : List Fd) (fd : Int) : Decidable (ok s fd) := by unfold ok; infer_instance
def findP (b : Nat) (s : List Fd) (fd : Int) : Option Addr := if ok s fd then some ⟨b, 0 + fd.toNat * 3, none⟩ else none
theorem find_spec {H : Heap} {b T : Nat} {s : List Fd} (h : FdsAt H b 0 T s) (fd : Int) :
    HC Try.prog 16 #[.pointer (some ⟨b, 0, none⟩), .int .i64 fd] H fun v H' => H = H' ∧ v = .pointer (findP b s fd) := by
  refine find_vc b fd H _ (br_dec (fun h1 => ⟨rfl, ?_⟩) fun h1 => br_dec (fun h2 => ⟨rfl, ?_⟩) fun h2 => ⟨⟨by omega, by omega⟩, _, h.c2 fd.toNat (by omega), br_not (br_intro (fun hu => ⟨⟨by omega, by omega⟩, rfl, ?_⟩) fun hu => ⟨rfl, ?_⟩)⟩)
  · rw [findP, if_neg (fun hh => by have := hh.1; omega)]
  · rw [findP, if_neg (fun hh => by have := hh.2.1; omega)]
  · rw [findP, if_pos ⟨by omega, by omega, hu⟩]
  · rw [findP, if_neg (fun hh => by have := hh.2.2; rw [hu] at this; cases this)]
/-- the first one that is free -/
def least (s : List Fd) : Nat := s.findIdx fun x => !x.2.2
theorem least_at {s : List Fd} (hl : s.length = 8) {k : Nat} (hk : k < 8) (h : (fdAt s k).2.2 = false) (hj : ∀ j, j < k → (fdAt s j).2.2 = true) : least s = k := by
  have hk' : k < s.length := by omega
  refine (List.findIdx_eq hk').2 ⟨?_, fun j hjk => ?_⟩
  · have : s[k] = fdAt s k := by simp [fdAt, List.getD_eq_getElem?_getD, hk']
    rw [this, h]; rfl
  · have hj' : j < s.length := by omega
    have : s[j] = fdAt s j := by simp [fdAt, List.getD_eq_getElem?_getD, hj']
    rw [this, hj j hjk]; rfl
theorem least_none {s : List Fd} (hl : s.length = 8) (hj : ∀ j, j < 8 → (fdAt s j).2.2 = true) : least s = 8 := by
  unfold least
  rw [← hl]
  refine List.findIdx_eq_length.2 fun x hx => ?_
  obtain ⟨j, hj', rfl⟩ := List.getElem_of_mem hx
  have : s[j] = fdAt s j := by simp [fdAt, List.getD_eq_getElem?_getD, hj']
  rw [this, hj j (by omega)]; rfl
def opened (s : List Fd) (ino : Int) : Int × Int × List Fd :=
  if ino < 1 ∨ 48 ≤ ino then (0, 1, s) else if least s < 8 then (least s, 0, s.set (least s) (ino, 0, true)) else (0, 16, s)
theorem open_spec {H : Heap} {b T : Nat} {s : List Fd} (h : FdsAt H b 0 T s) (ino : Int) :
    HC Try.prog 8 #[.pointer (some ⟨b, 0, none⟩), .int .i64 ino] H fun v H' => Only b H H' ∧ FdsAt H' b 0 T (opened s ino).2.2 ∧ v = .tuple #[.int .i64 (opened s ino).1, .int .i64 (opened s ino).2.1] := by
  refine open__vc b ino H _ (br_dec (fun h1 => ?_) fun h1 => br_dec (fun h2 => ?_) fun h2 => ?_)
  · rw [opened, if_pos (by omega)]; exact ⟨.refl _ _, h, rfl⟩
  · rw [opened, if_pos (by omega)]; exact ⟨.refl _ _, h, rfl⟩
  refine ⟨fun n H' => H = H' ∧ 0 ≤ n ∧ n ≤ 8 ∧ ∀ j, j < n.toNat → (fdAt s j).2.2 = true, fun n _ => (8 - n).toNat, ⟨rfl, by omega, by omega, fun j hj => by omega⟩, ?_⟩
  rintro _ _ n ⟨rfl, h0, h8, hall⟩
  refine br_dec (fun hn => ⟨⟨by omega, by omega⟩, _, h.c2 n.toNat (by omega), br_not (br_intro (fun hu => ?_) fun hu => ⟨⟨by omega, by omega⟩, h.st3 (by omega) fun H' ho hf => ?_⟩)⟩) fun hn => ?_
  · rw [wrap_i64 (by omega) (by omega)]
    refine ⟨⟨rfl, by omega, by omega, fun j hj => ?_⟩, by simp only [ltK]; omega⟩
    by_cases e : j < n.toNat
    · exact hall j e
    · rw [show j = n.toNat by omega]; exact hu
  · have hl := least_at h.len (by omega) hu hall
    rw [opened, if_neg (by omega), hl, if_pos (by omega)]
    exact ⟨ho, hf, by rw [show ((n.toNat : Nat) : Int) = n by omega]⟩
  · have hl := least_none h.len (fun j hj => hall j (by omega))
    rw [opened, if_neg (by omega), hl, if_neg (by omega)]
    exact ⟨.refl _ _, h, rfl⟩
def closed (s : List Fd) (fd : Int) : Int × Int × List Fd := if ok s fd then ((fdAt s fd.toNat).1, 0, s.set fd.toNat (0, 0, false)) else (0, 15, s)
theorem close_spec {H : Heap} {b T : Nat} {s : List Fd} (h : FdsAt H b 0 T s) (fd : Int) :
    HC Try.prog 9 #[.pointer (some ⟨b, 0, none⟩), .int .i64 fd] H fun v H' => Only b H H' ∧ FdsAt H' b 0 T (closed s fd).2.2 ∧ v = .tuple #[.int .i64 (closed s fd).1, .int .i64 (closed s fd).2.1] := by
  refine close__vc b fd H _ ((find_spec h fd).mono ?_)
  rintro _ _ ⟨rfl, rfl⟩
  refine ⟨_, rfl, ?_⟩
  unfold findP closed
  by_cases hk : ok s fd
  · rw [if_pos hk, if_pos hk]
    refine ⟨_, h.c0 _ (by have := hk.2.1; omega), h.st3 (by have := hk.2.1; omega) fun H' ho hf => ⟨ho, hf, rfl⟩⟩
  · rw [if_neg hk, if_neg hk]; exact ⟨.refl _ _, h, rfl⟩
def got (s : List Fd) (fd : Int) : Int × Int × Int := if ok s fd then ((fdAt s fd.toNat).1, (fdAt s fd.toNat).2.1, 0) else (0, 0, 15)
theorem get_spec {H : Heap} {b T : Nat} {s : List Fd} (h : FdsAt H b 0 T s) (fd : Int) :
    HC Try.prog 14 #[.pointer (some ⟨b, 0, none⟩), .int .i64 fd] H fun v H' => H = H' ∧ v = .tuple #[.int .i64 (got s fd).1, .int .i64 (got s fd).2.1, .int .i64 (got s fd).2.2] := by
  refine get__vc b fd H _ ((find_spec h fd).mono ?_)
  rintro _ _ ⟨rfl, rfl⟩
  refine ⟨_, rfl, ?_⟩
  unfold findP got
  by_cases hk : ok s fd
  · rw [if_pos hk, if_pos hk]
    exact ⟨_, h.c0 _ (by have := hk.2.1; omega), _, h.c1 _ (by have := hk.2.1; omega), rfl, rfl⟩
  · rw [if_neg hk, if_neg hk]; exact ⟨rfl, rfl⟩
def sought (s : List Fd) (fd at_ : Int) : Int × List Fd :=
  if ok s fd then if at_ < 0 ∨ 35328 < at_ then (9, s) else (0, s.set fd.toNat ((fdAt s fd.toNat).1, at_, (fdAt s fd.toNat).2.2)) else (15, s)
theorem seek_spec {H : Heap} {b T : Nat} {s : List Fd} (h : FdsAt H b 0 T s) (fd a : Int) :
    HC Try.prog 15 #[.pointer (some ⟨b, 0, none⟩), .int .i64 fd, .int .i64 a] H fun v H' => Only b H H' ∧ FdsAt H' b 0 T (sought s fd a).2 ∧ v = .int .i64 (sought s fd a).1 := by
  refine seek_vc b fd a H _ ((find_spec h fd).mono ?_)
  rintro _ _ ⟨rfl, rfl⟩
  refine ⟨_, rfl, ?_⟩
  unfold findP sought
  by_cases hk : ok s fd
  · rw [if_pos hk, if_pos hk]
    refine br_dec (fun h1 => ?_) fun h1 => br_dec (fun h2 => ?_) fun h2 => h.st1 (by have := hk.2.1; omega) fun H' ho hf => ?_
    · rw [if_pos (by omega)]; exact ⟨.refl _ _, h, rfl⟩
    · rw [if_pos (by omega)]; exact ⟨.refl _ _, h, rfl⟩
    · rw [if_neg (by omega)]; exact ⟨ho, hf, rfl⟩
  · rw [if_neg hk, if_neg hk]; exact ⟨.refl _ _, h, rfl⟩
/-- how many -/
def many (p : Fd → Bool) (s : List Fd) : Nat := (s.filter p).length
theorem many_succ (p : Fd → Bool) (s : List Fd) (k : Nat) (h : k < s.length) : many p (s.take (k + 1)) = many p (s.take k) + if p (fdAt s k) then 1 else 0 := by
  have : s[k] = fdAt s k := by simp [fdAt, List.getD_eq_getElem?_getD, h]
  rw [List.take_succ_eq_append_getElem h, many, many, List.filter_append, List.length_append, this]
  simp only [List.filter_cons, List.filter_nil]
  split <;> simp
theorem many_le (p : Fd → Bool) (s : List Fd) : many p s ≤ s.length := List.length_filter_le _ _
def mine (ino : Int) (x : Fd) : Bool := x.2.2 && x.1 == ino
theorem most_spec (b : Nat) (H : Heap) : HC Try.prog 17 #[.pointer (some ⟨b, 0, none⟩)] H fun v H' => H = H' ∧ v = .int .i64 8 := most_vc b H _ ⟨rfl, rfl⟩
theorem uses_spec {H : Heap} {b T : Nat} {s : List Fd} (h : FdsAt H b 0 T s) (ino : Int) :
    HC Try.prog 12 #[.pointer (some ⟨b, 0, none⟩), .int .i64 ino] H fun v H' => H = H' ∧ v = .int .i64 (many (mine ino) s) := by
  refine uses_vc b ino H _ ((most_spec b _).mono ?_)
  rintro _ _ ⟨rfl, rfl⟩
  refine ⟨8, rfl, fun a i H' => H = H' ∧ 0 ≤ i ∧ i ≤ 8 ∧ a = many (mine ino) (s.take i.toNat), fun _ i _ => (8 - i).toNat, ⟨rfl, by omega, by omega, rfl⟩, ?_⟩
  rintro _ _ a i ⟨rfl, h0, h8, rfl⟩
  refine br_dec (fun hi => (find_spec h i).mono ?_) fun hi => ⟨rfl, by rw [List.take_of_length_le (by rw [h.len]; omega)]⟩
  rintro _ _ ⟨rfl, rfl⟩
  have hs := many_succ (mine ino) s i.toNat (by rw [h.len]; omega)
  have hb := many_le (mine ino) (s.take i.toNat)
  have hb2 : (s.take i.toNat).length ≤ 8 := by rw [List.length_take, h.len]; omega
  have ei : (i + 1).toNat = i.toNat + 1 := by omega
  refine ⟨_, rfl, ?_⟩
  rw [wrap_i64 (n := i + 1) (by omega) (by omega), wrap_i64 (by omega) (by omega)]
  unfold findP
  by_cases hu : (fdAt s i.toNat).2.2 = true
  · have hk : ok s i := ⟨h0, hi, hu⟩
    rw [if_pos hk]
    refine ⟨_, h.c0 _ (by omega), br_beq (fun e => ⟨⟨rfl, by omega, by omega, ?_⟩, by simp only [ltK]; omega⟩) fun e => ⟨⟨rfl, by omega, by omega, ?_⟩, by simp only [ltK]; omega⟩⟩
    · rw [ei, hs, mine, hu, e]; simp
    · rw [ei, hs, mine, hu]; simp [e]
  · rw [if_neg (fun hk => hu hk.2.2)]
    refine ⟨⟨rfl, by omega, by omega, ?_⟩, by simp only [ltK]; omega⟩
    rw [ei, hs, mine]; simp [hu]
theorem len_spec {H : Heap} {b T : Nat} {s : List Fd} (h : FdsAt H b 0 T s) :
    HC Try.prog 10 #[.pointer (some ⟨b, 0, none⟩)] H fun v H' => H = H' ∧ v = .int .i64 (many (·.2.2) s) := by
  refine len__vc b H _ ((most_spec b _).mono ?_)
  rintro _ _ ⟨rfl, rfl⟩
  refine ⟨8, rfl, fun a i H' => H = H' ∧ 0 ≤ i ∧ i ≤ 8 ∧ a = many (·.2.2) (s.take i.toNat), fun _ i _ => (8 - i).toNat, ⟨rfl, by omega, by omega, rfl⟩, ?_⟩
  rintro _ _ a i ⟨rfl, h0, h8, rfl⟩
  refine br_dec (fun hi => (find_spec h i).mono ?_) fun hi => ⟨rfl, by rw [List.take_of_length_le (by rw [h.len]; omega)]⟩
  rintro _ _ ⟨rfl, rfl⟩
  have hs := many_succ (·.2.2) s i.toNat (by rw [h.len]; omega)
  have hb := many_le (·.2.2) (s.take i.toNat)
  have hb2 : (s.take i.toNat).length ≤ 8 := by rw [List.length_take, h.len]; omega
  have ei : (i + 1).toNat = i.toNat + 1 := by omega
  refine ⟨_, rfl, ?_⟩
  rw [wrap_i64 (n := i + 1) (by omega) (by omega), wrap_i64 (by omega) (by omega)]
  unfold findP
  by_cases hu : (fdAt s i.toNat).2.2 = true
  · rw [if_pos ⟨h0, hi, hu⟩]
    refine ⟨⟨rfl, by omega, by omega, ?_⟩, by simp only [ltK]; omega⟩
    rw [ei, hs]; simp [hu]
  · rw [if_neg (fun hk => hu hk.2.2)]
    refine ⟨⟨rfl, by omega, by omega, ?_⟩, by simp only [ltK]; omega⟩
    rw [ei, hs]; simp [hu]
theorem wuses_spec {H : Heap} {b T : Nat} {s : List Fd} (h : FdsAt H b 1 T s) (ino : Int) :
    HC Try.prog 13 #[.pointer (some ⟨b, 0, none⟩), .int .i64 ino] H fun v H' => H = H' ∧ v = .int .i64 (many (mine ino) s) := by
  refine wuses_vc b ino H _ ⟨fun a i H' => H = H' ∧ 0 ≤ i ∧ i ≤ 8 ∧ a = many (mine ino) (s.take i.toNat), fun _ i _ => (8 - i).toNat, ⟨rfl, by omega, by omega, rfl⟩, ?_⟩
  rintro _ _ a i ⟨rfl, h0, h8, rfl⟩
  refine br_dec (fun hi => ⟨⟨h0, hi⟩, _, h.c2 i.toNat (by omega), ?_⟩) fun hi => ⟨rfl, by rw [List.take_of_length_le (by rw [h.len]; omega)]⟩
  have hs := many_succ (mine ino) s i.toNat (by rw [h.len]; omega)
  have hb := many_le (mine ino) (s.take i.toNat)
  have hb2 : (s.take i.toNat).length ≤ 8 := by rw [List.length_take, h.len]; omega
  have ei : (i + 1).toNat = i.toNat + 1 := by omega
  rw [wrap_i64 (n := i + 1) (by omega) (by omega), wrap_i64 (by omega) (by omega)]
  refine br_intro (fun hu => ⟨⟨h0, hi⟩, _, h.c0 _ (by omega), br_beq (fun e => ⟨⟨rfl, by omega, by omega, ?_⟩, by simp only [ltK]; omega⟩) fun e => ⟨⟨rfl, by omega, by omega, ?_⟩, by simp only [ltK]; omega⟩⟩) fun hu => ⟨⟨rfl, by omega, by omega, ?_⟩, by simp only [ltK]; omega⟩
  · rw [ei, hs, mine, hu, e]; simp
  · rw [ei, hs, mine, hu]; simp [e]
  · rw [ei, hs, mine]; simp [hu]
end Go.Proofs.Ytbbiicpjhgjbmaa
namespace Go.Proofs.Ytbbiicpjhgjbmaa
open Go Go.Vc Go.Proofs
/-- of what was there, b and c alone may have changed -/
structure Two (b c : Nat) (H H' : Heap) : Prop where
  size : H.size ≤ H'.size
  block : ∀ i, i < H.size → i ≠ b → i ≠ c → H'[i]? = H[i]?
theorem Two.refl (b c : Nat) (H : Heap) : Two b c H H := ⟨Nat.le_refl _, fun _ _ _ _ => rfl⟩
theorem Two.trans {b c : Nat} {x y z : Heap} (h : Two b c x y) (k : Two b c y z) : Two b c x z :=
  ⟨Nat.le_trans h.size k.size, fun i hi hb hc => (k.block i (Nat.lt_of_lt_of_le hi h.size) hb hc).trans (h.block i hi hb hc)⟩
theorem Two.push (b c : Nat) (H : Heap) (o : Obj) : Two b c H (H.push o) := ⟨by simp, fun i hi _ _ => hpush_old o hi⟩
theorem Only.two1 {b c : Nat} {H H' : Heap} (h : Only b H H') : Two b c H H' := ⟨by rw [h.1]; exact Nat.le_refl _, fun i _ hb _ => h.2 i hb⟩
theorem Only.two2 {b c : Nat} {H H' : Heap} (h : Only c H H') : Two b c H H' := ⟨by rw [h.1]; exact Nat.le_refl _, fun i _ _ hc => h.2 i hc⟩
theorem Two.old {b c B : Nat} {H H' : Heap} (h : Two b c H H') (hB : B ≤ H.size) (hb : B ≤ b) (hc : B ≤ c) : Old B H H' := ⟨h.size, fun k hk => h.block k (by omega) (by omega) (by omega)⟩
theorem FdsAt.push {H b o T s} (h : FdsAt H b o T s) (x : Obj) : FdsAt (H.push x) b o T s :=
  ⟨h.len, by obtain ⟨c, h1, h2⟩ := h.at_; exact ⟨c, h1, by rw [hpush_old _ (hlt_of_block h2)]; exact h2⟩⟩
theorem FdsAt.lt {H b o T s} (h : FdsAt H b o T s) : b < H.size := by obtain ⟨c, h1, h2⟩ := h.at_; exact hlt_of_block h2
theorem fdAt_set {s : List Fd} (hl : s.length = 8) {k : Nat} (hk : k < 8) (x : Fd) (j : Nat) : fdAt (s.set k x) j = if k = j then x else fdAt s j := by
  unfold fdAt
  simp only [List.getD_eq_getElem?_getD, List.getElem?_set, hl, hk]
  split
  · subst_vars; simp
  · rfl
def DoPost (b c T U : Nat) (H : Heap) (v : Value) (H' : Heap) : Prop :=
  v = .bool true ∧ Two b c H H' ∧ ∃ s, FdsAt H' b 0 T s ∧ FdsAt H' c 1 U s
def clamp (n : Int) : Int := if 7 < if 0 > n then 0 else n then 7 else if 0 > n then 0 else n
theorem clamp_bd (n : Int) : 0 ≤ clamp n ∧ clamp n < 8 := by
  unfold clamp
  by_cases h : 0 > n
  · rw [if_pos h]; simp
  · rw [if_neg h]
    by_cases h2 : 7 < n
    · rw [if_pos h2]; omega
    · rw [if_neg h2]; omega
theorem clamp_in (n : Int) (h0 : 0 ≤ n) (h7 : n ≤ 7) : clamp n = n := by
  unfold clamp
  rw [if_neg (by omega), if_neg (by omega)]
theorem do_spec {H : Heap} {b c T U : Nat} {s : List Fd} (hb : FdsAt H b 0 T s) (hc : FdsAt H c 1 U s) (hbc : b ≠ c) (k n a : Int) :
    HC Try.prog 11 #[.pointer (some ⟨b, 0, none⟩), .pointer (some ⟨c, 0, none⟩), .agg #[.int .i64 k, .int .i64 n, .int .i64 a]] H (DoPost b c T U H) := by
  refine do__vc b c k n a H _ ?_
  rintro r H2 rfl rfl
  have tw := Two.push b c H (.cells #[.int .i64 k, .int .i64 n, .int .i64 a] 47 (0, 0))
  have nb := hb.lt
  have nc := hc.lt
  have hb := hb.push (.cells #[.int .i64 k, .int .i64 n, .int .i64 a] 47 (0, 0))
  have hc := hc.push (.cells #[.int .i64 k, .int .i64 n, .int .i64 a] 47 (0, 0))
  have hr := hpush_new H (.cells #[.int .i64 k, .int .i64 n, .int .i64 a] 47 (0, 0))
  generalize H.push (.cells #[.int .i64 k, .int .i64 n, .int .i64 a] 47 (0, 0)) = H2 at *
  generalize er : H.size = r at *
  have e0 : ∀ H', H'[r]? = H2[r]? → hcell H' ⟨r, 0, none⟩ = some (.int .i64 k) := fun H' h => by rw [hcell_cells (h.trans hr)]; rfl
  have e1 : ∀ H', H'[r]? = H2[r]? → hcell H' ⟨r, 1, none⟩ = some (.int .i64 n) := fun H' h => by rw [hcell_cells (h.trans hr)]; rfl
  have e2 : ∀ H', H'[r]? = H2[r]? → hcell H' ⟨r, 2, none⟩ = some (.int .i64 a) := fun H' h => by rw [hcell_cells (h.trans hr)]; rfl
  have rb : r ≠ b := by omega
  have rc : r ≠ c := by omega
  refine ⟨fun bad H' => H2 = H' ∧ bad = !decide (ok s n), ⟨n, e1 H2 rfl, br_dec (fun h => ⟨rfl, ?_⟩) fun h => ⟨n, e1 H2 rfl, br_dec (fun h2 => ⟨rfl, ?_⟩) fun h2 => ⟨n, e1 H2 rfl, clamp_bd n, (fdAt s n.toNat).2.2, ?_, rfl, ?_⟩⟩⟩, ?_⟩
  · rw [decide_eq_false (fun hh => by have := hh.1; omega)]; rfl
  · rw [decide_eq_false (fun hh => by have := hh.2.1; omega)]; rfl
  · have := hc.c2 (clamp n).toNat (by have := clamp_bd n; omega)
    rw [clamp_in n (by omega) (by omega)] at this
    have e := clamp_in n (by omega) (by omega)
    unfold clamp at e
    rw [e]; exact this
  · congr 1
    by_cases hu : (fdAt s n.toNat).2.2 = true
    · rw [hu]; exact (decide_eq_true ⟨by omega, by omega, hu⟩).symm
    · rw [decide_eq_false (fun hh => hu hh.2.2)]; simpa using hu
  rintro _ _ bad ⟨rfl, hbad⟩
  refine ⟨k, e0 _ rfl, br_beq (fun _ => ⟨n, e1 _ rfl, ?_⟩) fun _ => br_beq (fun _ => ⟨n, e1 _ rfl, ?_⟩) fun _ => br_beq (fun _ => ⟨n, e1 _ rfl, a, e2 _ rfl, ?_⟩) fun _ => ⟨n, e1 _ rfl, ?_⟩⟩
  · refine (open_spec hb n).mono ?_
    rintro _ H3 ⟨ho, hf, rfl⟩
    have er3 : H3[r]? = H2[r]? := ho.2 r rb
    have hc3 := ho.fds hbc.symm hc
    have tw3 := tw.trans (ho.two1 (c := c))
    refine ⟨_, _, rfl, n, e1 _ er3, br_dec (fun h => ?_) fun h => ⟨n, e1 _ er3, br_dec (fun h2 => ?_) fun h2 => ?_⟩⟩
    · rw [opened, if_pos (by omega)] at hf ⊢
      exact br_beq (fun _ => ⟨rfl, tw3, _, hf, hc3⟩) fun h => absurd rfl h
    · rw [opened, if_pos (by omega)] at hf ⊢
      exact br_beq (fun _ => ⟨rfl, tw3, _, hf, hc3⟩) fun h => absurd rfl h
    rw [opened, if_neg (by omega)] at hf ⊢
    refine ⟨fun i H' => H3 = H' ∧ 0 ≤ i ∧ i ≤ 8 ∧ ∀ j, j < i.toNat → (fdAt s j).2.2 = true, fun i _ => (8 - i).toNat, ⟨rfl, by omega, by omega, fun j hj => by omega⟩, ?_⟩
    rintro _ _ i ⟨rfl, h0, h8, hall⟩
    refine br_dec (fun hi => ⟨⟨h0, hi⟩, _, hc3.c2 i.toNat (by omega), br_not (br_intro (fun hu => ?_) fun hu => ⟨n, e1 _ er3, ⟨h0, hi⟩, hc3.st3 (by omega) fun H4 ho4 hf4 => ?_⟩)⟩) fun hi => ?_
    · rw [wrap_i64 (by omega) (by omega)]
      refine ⟨⟨rfl, by omega, by omega, fun j hj => ?_⟩, by simp only [ltK]; omega⟩
      by_cases e : j < i.toNat
      · exact hall j e
      · rw [show j = i.toNat by omega]; exact hu
    · have hl := least_at hc.len (by omega) hu hall
      rw [hl, if_pos (by omega)] at hf ⊢
      refine br_beq (fun _ => ⟨rfl, tw3.trans ho4.two2, _, ho4.fds hbc hf, hf4⟩) fun h => absurd ?_ h
      simp only; omega
    · have hl := least_none hc.len (fun j hj => hall j (by omega))
      rw [hl, if_neg (by omega)] at hf ⊢
      exact br_beq (fun _ => ⟨rfl, tw3, _, hf, hc3⟩) fun h => absurd rfl h
  · refine (close_spec hb n).mono ?_
    rintro _ H3 ⟨ho, hf, rfl⟩
    have er3 : H3[r]? = H2[r]? := ho.2 r rb
    have hc3 := ho.fds hbc.symm hc
    have tw3 := tw.trans (ho.two1 (c := c))
    unfold closed at hf ⊢
    refine ⟨_, _, rfl, br_intro (fun hb1 => ?_) fun hb1 => ?_⟩
    · have hk : ¬ ok s n := by rw [hb1] at hbad; simpa using hbad
      rw [if_neg hk] at hf ⊢
      exact br_beq (fun _ => ⟨rfl, tw3, _, hf, hc3⟩) fun h => absurd rfl h
    · have hk : ok s n := by rw [hb1] at hbad; simpa using hbad
      have hk1 := hk.1
      have hk2 := hk.2.1
      rw [if_pos hk] at hf ⊢
      refine ⟨n, e1 _ er3, ⟨hk1, hk2⟩, _, hc3.c0 _ (by omega), n, e1 _ er3, ⟨hk1, hk2⟩, hc3.st3 (by omega) fun H4 ho4 hf4 => ?_⟩
      exact br_beq (fun _ => ⟨rfl, tw3.trans ho4.two2, _, ho4.fds hbc hf, hf4⟩) fun h => absurd rfl h
  · refine (seek_spec hb n a).mono ?_
    rintro _ H3 ⟨ho, hf, rfl⟩
    have er3 : H3[r]? = H2[r]? := ho.2 r rb
    have hc3 := ho.fds hbc.symm hc
    have tw3 := tw.trans (ho.two1 (c := c))
    unfold sought at hf ⊢
    refine ⟨_, rfl, br_intro (fun hb1 => ?_) fun hb1 => ?_⟩
    · have hk : ¬ ok s n := by rw [hb1] at hbad; simpa using hbad
      rw [if_neg hk] at hf ⊢
      exact ⟨rfl, tw3, _, hf, hc3⟩
    · have hk : ok s n := by rw [hb1] at hbad; simpa using hbad
      have hk1 := hk.1
      have hk2 := hk.2.1
      rw [if_pos hk] at hf ⊢
      refine ⟨a, e2 _ er3, br_dec (fun h => ?_) fun h => ⟨a, e2 _ er3, br_dec (fun h2 => ?_) fun h2 => ⟨n, e1 _ er3, a, e2 _ er3, ⟨hk1, hk2⟩, ?_⟩⟩⟩
      · rw [if_pos (by omega)] at hf ⊢; exact ⟨rfl, tw3, _, hf, hc3⟩
      · rw [if_pos (by omega)] at hf ⊢; exact ⟨rfl, tw3, _, hf, hc3⟩
      · rw [if_neg (by omega)] at hf ⊢
        exact hc3.st1 (by omega) fun H4 ho4 hf4 => ⟨rfl, tw3.trans ho4.two2, _, ho4.fds hbc hf, hf4⟩
  · refine (get_spec hb n).mono ?_
    rintro _ _ ⟨rfl, rfl⟩
    unfold got
    refine ⟨_, _, _, rfl, br_intro (fun hb1 => ?_) fun hb1 => ?_⟩
    · have hk : ¬ ok s n := by rw [hb1] at hbad; simpa using hbad
      rw [if_neg hk]
      exact br_beq (fun _ => br_beq (fun _ => ⟨rfl, tw, _, hb, hc⟩) fun h => absurd rfl h) fun h => absurd rfl h
    · have hk : ok s n := by rw [hb1] at hbad; simpa using hbad
      have hk1 := hk.1
      have hk2 := hk.2.1
      rw [if_pos hk]
      refine ⟨n, e1 _ rfl, ⟨hk1, hk2⟩, _, hc.c0 _ (by omega), br_beq (fun _ => ⟨n, e1 _ rfl, ⟨hk1, hk2⟩, _, hc.c1 _ (by omega), br_beq (fun _ => ?_) fun h => absurd rfl h⟩) fun h => absurd rfl h⟩
      exact ⟨rfl, tw, _, hb, hc⟩
end Go.Proofs.Ytbbiicpjhgjbmaa
