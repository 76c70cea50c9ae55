/-
  Parts of a proof: see the row.
-/
import Derived.Test.YtljdcbcjdlpbgaaVcMem
set_option linter.unusedVariables false
set_option linter.unusedSimpArgs false
namespace Go.Vc

theorem ptrK_mk {b o : Nat} {K : Nat → Nat → Prop} (h : K b o) : ptrK (some ⟨b, o, none⟩) K := h
theorem ldInt_mk {k : IntKind} {a : Addr} {H : Heap} {K : Int → Prop} {x : Int} (h : hcell H a = some (.int k x)) (hk : K x) : ldInt k a H K := ⟨x, h, hk⟩

/-! ## a row that is read only; its block is none of N's -/
def Row (N : Fp) (H : Heap) (p : Option Addr) (vs : List Value) : Prop := vs = [] ∨ ∃ b o, p = some ⟨b, o, none⟩ ∧ ¬ N b ∧ ∀ i v, vs[i]? = some v → hcell H ⟨b, o + i, none⟩ = some v
theorem Row.nil (N : Fp) (H : Heap) (p : Option Addr) : Row N H p [] := .inl rfl
theorem Row.is {N H p vs} (h : Row N H p vs) : rowIs H p vs := by
  rcases h with h | ⟨b, o, rfl, _, h⟩
  · exact .inl h
  · exact .inr ⟨b, o, rfl, h⟩
theorem hcell_lt {H : Heap} {a : Addr} {v : Value} (h : hcell H a = some v) : a.block < H.size := by
  rcases Nat.lt_or_ge a.block H.size with h' | h'
  · exact h'
  · exfalso
    unfold hcell World.cell? wof at h
    simp only [Array.getElem?_eq_none h'] at h
    cases h
theorem Row.of_block {N N' : Fp} {H H' : Heap} {p vs} (h : Row N H p vs) (hb : ∀ k, k < H.size → ¬ N k → H'[k]? = H[k]? ∧ ¬ N' k) : Row N' H' p vs := by
  rcases h with h | ⟨b, o, rfl, hn, h⟩
  · exact .inl h
  · cases vs with
    | nil => exact .inl rfl
    | cons v r =>
      have hlt : b < H.size := hcell_lt (h 0 v rfl)
      obtain ⟨e, hn'⟩ := hb b hlt hn
      exact .inr ⟨b, o, rfl, hn', fun i v hv => (hcell_of_block (a := ⟨b, o + i, none⟩) e).trans (h i v hv)⟩
theorem Row.ext {N N' : Fp} {H H' : Heap} {p vs} (h : Row N H p vs) (x : Ext N H N' H') : Row N' H' p vs := h.of_block fun k hk hn => ⟨x.out k hk hn, x.away hk hn⟩
theorem Row.grow {N : Fp} {H H' : Heap} {p vs} (h : Row N H p vs) (g : Grow H H') : Row N H' p vs := h.of_block fun k hk hn => ⟨g.2 k hk, hn⟩
theorem Row.mono {N N' : Fp} {H : Heap} {p vs} (h : Row N H p vs) (hn : ∀ k, k < H.size → ¬ N k → ¬ N' k) : Row N' H p vs := h.of_block fun k hk hk2 => ⟨rfl, hn k hk hk2⟩
theorem Row.ld {N : Fp} {H : Heap} {p vs} (h : Row N H p vs) {i : Nat} {v : Value} (hi : vs[i]? = some v) {K : Nat → Nat → Prop}
    (hk : ∀ b o, p = some ⟨b, o, none⟩ → ¬ N b → hcell H ⟨b, o + i, none⟩ = some v → K b o) : ptrK p K := by
  rcases h with h | ⟨b, o, rfl, hn, h⟩
  · subst h; simp at hi
  · exact hk b o rfl hn (h i v hi)
theorem Row.ptr {N : Fp} {H : Heap} {p vs} (h : Row N H p vs) (hl : 0 < vs.length) {K : Nat → Nat → Prop}
    (hk : ∀ b o, p = some ⟨b, o, none⟩ → ¬ N b → (∀ (i : Nat) (v : Value), vs[i]? = some v → hcell H ⟨b, o + i, none⟩ = some v) → K b o) : ptrK p K := by
  rcases h with h | ⟨b, o, rfl, hn, h⟩
  · subst h; simp at hl
  · exact hk b o rfl hn h
theorem Row.part {N : Fp} {H : Heap} {p vs} (h : Row N H p vs) (lo hi m sz : Nat) (hm : m = lo → hi ≤ lo) : Row N H (slAt p lo m sz) ((vs.take (hi * sz)).drop (lo * sz)) := by
  rcases h with h | ⟨b, o, rfl, hn, h⟩
  · subst h; exact .inl (by simp)
  · unfold slAt
    by_cases e : m = lo
    · refine .inl (List.drop_eq_nil_of_le ?_)
      have := Nat.mul_le_mul_right sz (hm e)
      simp only [List.length_take]; omega
    · rw [if_neg e]
      refine .inr ⟨b, o + lo * sz, by simp [add_at], hn, fun i v hv => ?_⟩
      rw [List.getElem?_drop] at hv
      have : vs[lo * sz + i]? = some v := by
        rw [List.getElem?_take] at hv
        split at hv
        · exact hv
        · cases hv
      rw [Nat.add_assoc]; exact h _ v this
theorem Own.toRow {N e sz H p n c xs} (h : Own N e sz H p n c xs) : Row N H p xs := by
  obtain ⟨hl, ⟨_, rfl, _⟩ | ⟨b, cs, rfl, hn, hb, _, _, hc⟩⟩ := h
  · exact .inl (by simpa using hl)
  · exact .inr ⟨b, 0, rfl, hn, fun i v hv => by rw [Nat.zero_add, hb.cell]; exact hc i v hv⟩
/-- a store into a slice of one's own -/
theorem Own.st {N : Fp} {e sz : Nat} {H : Heap} {p n c vs} (h : Own N e sz H p n c vs) {i : Nat} {v : Value} (hi : i < vs.length) (hf : flat v = true) {K : Nat → Nat → Prop}
    (hk : ∀ b, p = some ⟨b, 0, none⟩ → (∀ (K : Heap → Prop), (∀ H', Kept p H H' → H'.size = H.size → Own N e sz H' p n c (vs.set i v) → K H') → stV ⟨b, 0 + i, none⟩ v H K) → K b 0) : ptrK p K := by
  obtain ⟨hl, ⟨rfl, rfl, _⟩ | ⟨b, cs, rfl, hn, hb, h2, h3, hc⟩⟩ := h
  · omega
  · have hci : i < cs.size := by
      have := hc i vs[i] (List.getElem?_eq_getElem hi)
      rcases Nat.lt_or_ge i cs.size with h | h
      · exact h
      · rw [Array.getElem?_eq_none h] at this; cases this
    refine hk b rfl fun K hK => ?_
    rw [Nat.zero_add]
    refine hb.st hci hf fun H' e1 e2 e3 => hK H' ⟨by omega, fun k _ hne => e2 k fun e => hne ⟨b, 0, none⟩ rfl e.symm⟩ e1 ⟨by simpa using hl, .inr ⟨b, _, rfl, hn, e3, h2, by simpa using h3, fun j u hj => ?_⟩⟩
    rw [List.getElem?_set] at hj
    rw [Array.getElem?_setIfInBounds]
    by_cases ej : i = j
    · subst ej; rw [if_pos rfl, if_pos hi] at hj; rw [if_pos rfl, if_pos hci]; exact hj
    · rw [if_neg ej] at hj; rw [if_neg ej]; exact hc j u hj
/-- a slice of a slice of one's own, from its first place on -/
theorem Own.cut {N e sz H p n c xs} (h : Own N e sz H p n c xs) {m : Nat} (hm : m ≤ n) : Own N e sz H (slAt p 0 c sz) m c (xs.take (m * sz)) := by
  obtain ⟨hl, ⟨rfl, rfl, rfl⟩ | ⟨b, cs, rfl, hn, hb, h2, h3, hc⟩⟩ := h
  · have : m = 0 := by omega
    subst this
    exact ⟨by simp, .inl ⟨by simp [slAt], rfl, rfl⟩⟩
  · refine ⟨by rw [List.length_take, hl]; exact Nat.min_eq_left (Nat.mul_le_mul_right _ hm), .inr ⟨b, cs, ?_, hn, hb, by omega, h3, fun i v hv => ?_⟩⟩
    · unfold slAt
      split
      · rfl
      · simp [add_at]
    · rw [List.getElem?_take] at hv
      split at hv
      · exact hc i v hv
      · cases hv

theorem putRow_eq (c vs : List Value) (o : Nat) (h : o + vs.length ≤ c.length) : putRow c o vs = c.take o ++ vs ++ c.drop (o + vs.length) := by
  apply List.ext_getElem?
  intro i
  rw [putRow_get _ _ _ _ h]
  by_cases h1 : i < o
  · rw [if_neg (by omega), List.append_assoc, List.getElem?_append_left (by simp; omega), List.getElem?_take, if_pos h1]
  · by_cases h2 : i < o + vs.length
    · rw [if_pos (by omega), List.append_assoc, List.getElem?_append_right (by simp; omega), List.getElem?_append_left (by simp; omega)]
      congr 1; simp; omega
    · rw [if_neg (by omega), List.getElem?_append_right (by simp; omega), List.getElem?_drop]
      congr 1; simp; omega
theorem slAt_zero (p : Option Addr) (m sz : Nat) (h : ∀ a, p = some a → a.spot = none) : slAt p 0 m sz = p := by
  unfold slAt
  split
  · rfl
  · cases p with
    | none => rfl
    | some a =>
      obtain ⟨b, o, e⟩ := a
      have : e = none := h _ rfl
      subst this
      simp [add_at]
/-- **copy**, of a row that is read, into a slice of one's own, from place lo on -/
theorem cpyV_own {P : Program} {t0 t1 t e : TypeId} {i : TypeInfo} {N : Fp} {n c m mc lo : Nat} {p q : Option Addr} {xs ys : List Value} {H : Heap} {K : Value → Heap → Prop}
    (h0 : P.underlying t0 = some (.slice e)) (hi : P.info? e = some i)
    (ho : Own N e i.size H p n c xs) (hlo : lo ≤ n) (hy : rowIs H q ys) (hm : ys.length = m * i.size) (hfl : ∀ v ∈ ys, flat v = true)
    (hK : ∀ H', Kept p H H' → H'.size = H.size → Own N e i.size H' p n c (xs.take (lo * i.size) ++ ys.take (min m (n - lo) * i.size) ++ xs.drop (lo * i.size + min m (n - lo) * i.size)) → K (.int .i64 (min m (n - lo) : Nat)) H') :
    cpyV P #[t0, t1] t #[.slice (slAt p lo c i.size) (n - lo) (c - lo), .slice q m mc] H K := by
  unfold cpyV Builtin.copy_
  simp only [List.getElem?_toArray, List.getElem?_cons_zero, List.getElem?_cons_succ]
  refine semVc_bind _ _ _ _ _ (semVc_und h0 ?_)
  simp only [Builtin.lenOf]
  refine semVc_bind _ _ _ _ _ (semVc_pure ?_)
  refine semVc_bind _ _ _ _ _ (semVc_size hi ?_)
  have hmn : Nat.min m (n - lo) = min m (n - lo) := rfl
  rw [hmn]
  generalize hk : min m (n - lo) = k at *
  have hkm : k ≤ m := by omega
  have hkn : lo + k ≤ n := by omega
  have hyl : (ys.take (k * i.size)).length = k * i.size := by
    rw [List.length_take, hm]; exact Nat.min_eq_left (Nat.mul_le_mul_right _ hkm)
  have hxl := ho.1
  have hle : lo * i.size + k * i.size ≤ n * i.size := by rw [← Nat.add_mul]; exact Nat.mul_le_mul_right _ hkn
  have hres : (xs.take (lo * i.size) ++ ys.take (k * i.size) ++ xs.drop (lo * i.size + k * i.size)).length = n * i.size := by
    simp only [List.length_append, List.length_take, List.length_drop, hxl, hm]
    have := Nat.mul_le_mul_right i.size hkm
    omega
  have hread : ∀ (K2 : Array Value → Heap → Prop), K2 (ys.take (k * i.size)).toArray H → semVc P (Builtin.firstCells i.size k (.slice q m mc)) H K2 := fun K2 hk2 => by
    rcases hy with hy | ⟨b, o, rfl, hy⟩
    · subst hy
      have h0 : k * i.size = 0 := by simpa using hyl.symm
      have hk3 : K2 #[] H := by simpa using hk2
      cases q with
      | none => exact hk3
      | some a =>
        simp only [Builtin.firstCells, h0]; exact hk3
    · simp only [Builtin.firstCells]
      exact semVc_loadCells hyl.symm (fun j v hj => hy j v (by
        rw [List.getElem?_take] at hj
        split at hj
        · exact hj
        · cases hj)) hk2
  refine semVc_bind _ _ _ _ _ (hread _ ?_)
  obtain ⟨_, ⟨rfl, rfl, rfl⟩ | ⟨b, cs, rfl, hbn, hH, h2, h3, hc⟩⟩ := ho
  · have hlo0 : lo = 0 := by omega
    have hk0 : k = 0 := by omega
    subst hlo0 hk0
    have hx0 : xs = [] := by simpa using hxl
    subst hx0
    exact hK H ⟨Nat.le_refl _, fun _ _ _ => rfl⟩ rfl (by simpa using Own.nil N e i.size H)
  · obtain ⟨cl⟩ := cs
    have h3' : cl.length = c * i.size := by simpa using h3
    have hcn : n * i.size ≤ c * i.size := Nat.mul_le_mul_right _ h2
    have hput : ∀ H' : Heap, CellsAt H' b (putRow cl (lo * i.size) (ys.take (k * i.size))).toArray e → Own N e i.size H' (some ⟨b, 0, none⟩) n c (xs.take (lo * i.size) ++ ys.take (k * i.size) ++ xs.drop (lo * i.size + k * i.size)) := fun H' e1 => by
      refine ⟨hres, .inr ⟨b, _, rfl, hbn, e1, h2, by simp [putRow_length 0, h3'], fun j v hj => ?_⟩⟩
      simp only [List.getElem?_toArray]
      have e2 : xs.take (lo * i.size) ++ ys.take (k * i.size) ++ xs.drop (lo * i.size + k * i.size) = putRow xs (lo * i.size) (ys.take (k * i.size)) := by
        rw [putRow_eq _ _ _ (by omega), hyl]
      rw [e2, putRow_get _ _ _ _ (by omega)] at hj
      rw [putRow_get _ _ _ _ (by omega)]
      split at hj
      · rename_i hh; rw [if_pos hh]; exact hj
      · rename_i hh; rw [if_neg hh]; simpa using hc j v hj
    have hfin : ∀ o : Nat, (k * i.size = 0 ∨ o = lo * i.size) → semVc P (do
        storeCells ⟨b, o, none⟩ (ys.take (k * i.size)).toArray.toList
        pure (Value.int .i64 (k : Nat))) H K := fun o ho => by
      rcases ho with h0 | rfl
      · have hy0 : ys.take (k * i.size) = [] := by rw [h0]; simp
        rw [hy0]
        refine semVc_bind _ _ _ _ _ ?_
        refine hK H ⟨Nat.le_refl _, fun _ _ _ => rfl⟩ rfl (hput H ?_)
        rw [hy0]; simpa [putRow] using hH
      · refine semVc_bind _ _ _ _ _ ?_
        refine semVc_storeFrom (T := e) (ys.take (k * i.size)) 0 cl H _ (fun v hv => hfl v (List.mem_of_mem_take hv)) hH (by omega) fun H' s1 o1 e1 => ?_
        exact hK H' ⟨by omega, fun x _ hne => o1 x fun e => hne ⟨b, 0, none⟩ rfl e.symm⟩ s1 (hput H' (by simpa using e1))
    unfold slAt
    by_cases hcl : c = lo
    · rw [if_pos hcl]
      exact hfin 0 (.inl (by have : k = 0 := by omega
                             rw [this, Nat.zero_mul]))
    · rw [if_neg hcl]
      simp only [Option.map_some, add_at, Nat.zero_add]
      exact hfin _ (.inr rfl)

/-! ## bytes -/
def u8 (x : Int) : UInt8 := UInt8.ofNat (x % 256).toNat
theorem u8_toNat (x : Int) : ((u8 x).toNat : Int) = x % 256 := by
  unfold u8; simp only [UInt8.toNat_ofNat']; omega
theorem byteV_u8 (x : Int) : byteV (u8 x) = .int .u8 (IntKind.wrap .u8 x) := by
  unfold byteV; rw [u8_toNat]; rfl
theorem u8_of (x : UInt8) : u8 x.toNat = x := by
  apply UInt8.toNat_inj.1
  have := u8_toNat x.toNat
  have hx := x.toNat_lt
  omega
theorem flat_byteV (x : UInt8) : flat (byteV x) = true := rfl
theorem flat_bytes (xs : List UInt8) : ∀ v ∈ xs.map byteV, flat v = true := fun v hv => by
  obtain ⟨x, _, rfl⟩ := List.mem_map.1 hv; rfl
abbrev Bytes := List UInt8
/-- bytes that are read only -/
structure Bs (N : Fp) (H : Heap) (p : Option Addr) (n c : Nat) (xs : Bytes) : Prop where
  cap : n ≤ c
  len : xs.length = n
  small : n ≤ 2 ^ 40
  row : Row N H p (xs.map byteV)
theorem Bs.ext {N N' : Fp} {H H' : Heap} {p n c xs} (h : Bs N H p n c xs) (x : Ext N H N' H') : Bs N' H' p n c xs := ⟨h.cap, h.len, h.small, h.row.ext x⟩
theorem Bs.grow {N : Fp} {H H' : Heap} {p n c xs} (h : Bs N H p n c xs) (x : Grow H H') : Bs N H' p n c xs := ⟨h.cap, h.len, h.small, h.row.grow x⟩
theorem Bs.mono {N N' : Fp} {H : Heap} {p n c xs} (h : Bs N H p n c xs) (x : ∀ k, k < H.size → ¬ N k → ¬ N' k) : Bs N' H p n c xs := ⟨h.cap, h.len, h.small, h.row.mono x⟩
theorem Bs.ld {N : Fp} {H : Heap} {p n c xs} (h : Bs N H p n c xs) {i : Nat} (hi : i < n) {K : Int → Prop} (hk : K (xs.getD i 0).toNat) : ptrK p fun b o => ldInt .u8 ⟨b, o + i * 1, none⟩ H K := by
  have hi' : i < xs.length := by rw [h.len]; exact hi
  refine h.row.ld (i := i) (v := byteV xs[i]) (by simp [hi']) fun b o _ _ hc => ⟨_, by rw [Nat.mul_one]; exact hc, ?_⟩
  rw [List.getD_eq_getElem?_getD, List.getElem?_eq_getElem hi'] at hk; exact hk
theorem Bs.part {N : Fp} {H : Heap} {p n c xs} (h : Bs N H p n c xs) {lo hi : Nat} (h1 : lo ≤ hi) (h2 : hi ≤ n) : Bs N H (slAt p lo c 1) (hi - lo) (c - lo) ((xs.take hi).drop lo) :=
  ⟨by have := h.cap; omega, by simp [h.len]; omega, by have := h.small; omega, by
    have := h.row.part lo hi c 1 (by have := h.cap; omega)
    rwa [Nat.mul_one, Nat.mul_one, ← List.map_take, ← List.map_drop] at this⟩
/-- bytes of one's own -/
structure OwnB (N : Fp) (e : TypeId) (H : Heap) (p : Option Addr) (n c : Nat) (xs : Bytes) : Prop where
  own : Own N e 1 H p n c (xs.map byteV)
  small : n ≤ 2 ^ 40
theorem OwnB.len {N e H p n c xs} (h : OwnB N e H p n c xs) : xs.length = n := by simpa using h.own.1
theorem OwnB.bs {N e H p n c xs} (h : OwnB N e H p n c xs) : Bs N H p n c xs := ⟨h.own.cap, h.len, h.small, h.own.toRow⟩
theorem OwnB.grow {N : Fp} {e H H' p n c xs} (h : OwnB N e H p n c xs) (g : Grow H H') : OwnB N e H' p n c xs := ⟨h.own.grow g, h.small⟩
theorem OwnB.mono {N N2 : Fp} {e H p n c xs} (h : OwnB N e H p n c xs) (hn : ∀ a, p = some a → ¬ N a.block → ¬ N2 a.block) : OwnB N2 e H p n c xs := ⟨h.own.mono hn, h.small⟩
theorem OwnB.of_block {N : Fp} {e H H' p n c xs} (h : OwnB N e H p n c xs) (hb : ∀ a, p = some a → H'[a.block]? = H[a.block]?) : OwnB N e H' p n c xs := ⟨h.own.of_block hb, h.small⟩
theorem OwnB.st {N : Fp} {e : TypeId} {H : Heap} {p n c xs} (h : OwnB N e H p n c xs) {i : Nat} {x : Int} (hi : i < n) {K : Heap → Prop}
    (hK : ∀ H', Kept p H H' → H'.size = H.size → OwnB N e H' p n c (xs.set i (u8 x)) → K H') : ptrK p fun b o => stV ⟨b, o + i * 1, none⟩ (.int .u8 (IntKind.wrap .u8 x)) H K := by
  refine h.own.st (i := i) (v := byteV (u8 x)) (by simp [h.len, hi]) rfl fun b _ hst => ?_
  rw [Nat.mul_one, ← byteV_u8]
  refine hst K fun H' k s o => hK H' k s ⟨?_, h.small⟩
  rw [List.map_set]; exact o
theorem Grow.kept {H0 H H' : Heap} {p : Option Addr} (g : Grow H0 H) (k : Kept p H H') (hp : ∀ a, p = some a → ¬ Upto H0 a.block) : Grow H0 H' :=
  ⟨Nat.le_trans g.1 k.1, fun i hi => (k.2 i (Nat.lt_of_lt_of_le hi g.1) fun a ha e => hp a ha (by unfold Upto; omega)).trans (g.2 i hi)⟩
theorem Upto.lt {H0 H : Heap} (g : Grow H0 H) : ∀ k, Upto H0 k → k < H.size := fun _ hk => Nat.lt_of_lt_of_le hk g.1
theorem Upto.not {H : Heap} {k : Nat} (h : H.size ≤ k) : ¬ Upto H k := fun hk => Nat.not_lt.2 h hk
theorem Grow.st {H0 H H' : Heap} {b : Nat} (g : Grow H0 H) (hb : H0.size ≤ b) (s : H'.size = H.size) (o : ∀ i, i ≠ b → H'[i]? = H[i]?) : Grow H0 H' :=
  ⟨by have := g.1; omega, fun k hk => (o k (by omega)).trans (g.2 k hk)⟩
/-- a row of slices of bytes that are read only -/
structure Bss (N : Fp) (H : Heap) (p : Option Addr) (n c : Nat) (L : List Bytes) : Prop where
  cap : n ≤ c
  len : L.length = n
  row : ∃ vs : List Value, Row N H p vs ∧ ∀ (i : Nat) (xs : Bytes), L[i]? = some xs → ∃ q m mc, vs[i]? = some (Value.slice q m mc) ∧ Bs N H q m mc xs
theorem Bss.ext {N N' : Fp} {H H' : Heap} {p n c L} (h : Bss N H p n c L) (x : Ext N H N' H') : Bss N' H' p n c L :=
  ⟨h.cap, h.len, by
    obtain ⟨vs, h1, h2⟩ := h.row
    exact ⟨vs, h1.ext x, fun i xs hi => by obtain ⟨q, m, mc, h3, h4⟩ := h2 i xs hi; exact ⟨q, m, mc, h3, h4.ext x⟩⟩⟩
theorem Bss.grow {N : Fp} {H H' : Heap} {p n c L} (h : Bss N H p n c L) (x : Grow H H') : Bss N H' p n c L := h.ext (x.ext N)
theorem Bss.ld {N : Fp} {H : Heap} {p n c L} (h : Bss N H p n c L) {i : Nat} (hi : i < n) {K : Option Addr → Nat → Nat → Prop} (hk : ∀ q m mc, Bs N H q m mc (L.getD i []) → K q m mc) : ptrK p fun b o => ldSl ⟨b, o + i * 1, none⟩ H K := by
  obtain ⟨vs, h1, h2⟩ := h.row
  have hi' : i < L.length := by rw [h.len]; exact hi
  obtain ⟨q, m, mc, h3, h4⟩ := h2 i _ (List.getElem?_eq_getElem hi')
  refine h1.ld h3 fun b o _ _ hc => ⟨q, m, mc, by rw [Nat.mul_one]; exact hc, hk _ _ _ ?_⟩
  rw [List.getD_eq_getElem?_getD, List.getElem?_eq_getElem hi']; exact h4
/-- the first k bytes of a number -/
def le (k : Nat) (x : Int) : Bytes := (List.range k).map fun i => u8 (x / 256 ^ i)
theorem le_length (k : Nat) (x : Int) : (le k x).length = k := by simp [le]
/-- the number that bytes are -/
def leVal : Bytes → Nat
  | [] => 0
  | b :: r => b.toNat + 256 * leVal r
theorem leVal_lt (l : Bytes) : leVal l < 256 ^ l.length := by
  induction l with
  | nil => simp [leVal]
  | cons b r ih => simp only [leVal, List.length_cons, Nat.pow_succ]; have := b.toNat_lt; omega
theorem le_succ (k : Nat) (x : Int) : le (k + 1) x = le k x ++ [u8 (x / 256 ^ k)] := by simp [le, List.range_succ]
theorem leVal_step (xs : Bytes) (a m : Nat) (h : a < xs.length) : leVal ((xs.drop a).take (m + 1)) = (xs.getD a 0).toNat + 256 * leVal ((xs.drop (a + 1)).take m) := by
  rw [List.drop_eq_getElem_cons h, List.take_succ_cons, leVal, List.getD_eq_getElem?_getD, List.getElem?_eq_getElem h]; rfl
theorem put_set (xs : Bytes) (k i m : Nat) (x : Int) (h : m = k - i) (hi : i < k) : (xs ++ le i x ++ List.replicate m 0).set (xs.length + i) (u8 (x / 256 ^ i)) = xs ++ le (i + 1) x ++ List.replicate (k - (i + 1)) 0 := by
  rw [List.append_assoc, List.set_append_right _ _ (by omega), Nat.add_sub_cancel_left, List.set_append_right _ _ (by simp [le_length]), le_length, Nat.sub_self, show m = (k - (i + 1)) + 1 by omega, List.replicate_succ, List.set_cons_zero, le_succ]
  simp
theorem or_byte {n b : Nat} (hn : n < 2 ^ 56) (hb : b < 256) : (n * 256) ||| b = n * 256 + b := by
  have := Nat.two_pow_add_eq_or_of_lt (i := 8) (by omega : b < 2 ^ 8) n
  rw [show 2 ^ 8 * n = n * 256 by omega] at this
  exact this.symm
theorem wrap_u64 {n : Int} (h1 : 0 ≤ n) (h2 : n < 18446744073709551616) : IntKind.wrap .u64 n = n := by
  show n % 2 ^ 64 = n
  omega
theorem wrap_u32 {n : Int} (h1 : 0 ≤ n) (h2 : n < 4294967296) : IntKind.wrap .u32 n = n := by
  show n % 2 ^ 32 = n
  omega
theorem wrap_u8 {n : Int} (h1 : 0 ≤ n) (h2 : n < 256) : IntKind.wrap .u8 n = n := by
  show n % 2 ^ 8 = n
  omega
theorem wrap_u16 {n : Int} (h1 : 0 ≤ n) (h2 : n < 65536) : IntKind.wrap .u16 n = n := by
  show n % 2 ^ 16 = n
  omega
/-- one round of pack.Get -/
theorem getStep {n b : Nat} (hn : n < 2 ^ 56) (hb : b < 256) :
    IntKind.wrap .u64 (↑(BitVec.toNat (BitVec.ofInt 64 (IntKind.wrap .u64 ((n : Int) * 256)) ||| BitVec.ofInt 64 (IntKind.wrap .u64 (b : Int)))) : Int) = ((n * 256 + b : Nat) : Int) := by
  rw [wrap_u64 (n := (n : Int) * 256) (by omega) (by omega), wrap_u64 (n := (b : Int)) (by omega) (by omega)]
  rw [BitVec.toNat_or, BitVec.toNat_ofInt, BitVec.toNat_ofInt]
  rw [show ((n : Int) * 256 % ((2 ^ 64 : Nat) : Int)).toNat = n * 256 by omega, show ((b : Int) % ((2 ^ 64 : Nat) : Int)).toNat = b by omega, or_byte hn hb]
  exact wrap_u64 (by omega) (by omega)
/-- the sum of bytes -/
def fnv1 (n : Nat) (b : UInt8) : Nat := ((n ^^^ b.toNat) * 16777619) % 2 ^ 32
def fnv (xs : Bytes) : Nat := xs.foldl fnv1 2166136261
theorem sumStep (n : Nat) (b : UInt8) (hn : n < 2 ^ 32) :
    IntKind.wrap .u32 (IntKind.wrap .u32 (↑(BitVec.toNat (BitVec.ofInt 32 (n : Int) ^^^ BitVec.ofInt 32 (IntKind.wrap .u32 (b.toNat : Int)))) : Int) * 16777619) = (fnv1 n b : Nat) := by
  have hb := b.toNat_lt
  rw [wrap_u32 (n := (b.toNat : Int)) (by omega) (by omega), BitVec.toNat_xor, BitVec.toNat_ofInt, BitVec.toNat_ofInt]
  rw [show ((n : Int) % ((2 ^ 32 : Nat) : Int)).toNat = n by omega, show ((b.toNat : Int) % ((2 ^ 32 : Nat) : Int)).toNat = b.toNat by omega]
  have hx : n ^^^ b.toNat < 2 ^ 32 := Nat.xor_lt_two_pow hn (by omega)
  rw [wrap_u32 (n := ((n ^^^ b.toNat : Nat) : Int)) (by omega) (by omega)]
  show _ % (2 ^ 32 : Int) = _
  unfold fnv1
  omega
theorem fnv1_lt (n : Nat) (b : UInt8) : fnv1 n b < 4294967296 := by
  unfold fnv1
  generalize (n ^^^ b.toNat) * 16777619 = x
  omega
theorem fold_lt (xs : Bytes) : ∀ n, n < 4294967296 → xs.foldl fnv1 n < 4294967296 := by
  induction xs with
  | nil => exact fun n h => h
  | cons b r ih => exact fun n _ => ih _ (fnv1_lt n b)
theorem fnv_lt (xs : Bytes) : fnv xs < 4294967296 := fold_lt xs _ (by omega)
/-! ## conversions -/
theorem hfreeze_block (H : Heap) (a : Addr) (n k : Nat) (h : k ≠ a.block) : (hfreeze H a n)[k]? = H[k]? := by
  unfold hfreeze World.freeze
  split
  · rfl
  · simp only [wof, Array.getElem?_modify]; rw [if_neg (by omega)]
theorem hfreeze_size (H : Heap) (a : Addr) (n : Nat) : (hfreeze H a n).size = H.size := by
  unfold hfreeze World.freeze
  split
  · rfl
  · simp [wof]
theorem hfreeze_cells {H : Heap} {b : Nat} {cs : Array Value} {e : TypeId} {f : Nat × Nat} (h : H[b]? = some (.cells cs e f)) (o : Nat) :
    (hfreeze H ⟨b, o, none⟩ 1)[b]? = some (.cells cs e (if f.1 == f.2 then (o, o + 1) else (min f.1 o, max f.2 (o + 1)))) := by
  unfold hfreeze World.freeze
  rw [if_neg (by omega)]
  simp only [wof, Array.getElem?_modify, h, if_pos]
  rfl
/-- a mark behind a row's last cell -/
theorem semVc_mark {P : Program} {b o : Nat} {cs : Array Value} {e : TypeId} {H : Heap} {K : Unit → Heap → Prop} {f : Nat × Nat} (h : H[b]? = some (.cells cs e f))
    (hK : ∀ H', H'.size = H.size → (∀ k, k ≠ b → H'[k]? = H[k]?) → (∃ f', H'[b]? = some (.cells cs e f') ∧ (f.1 = f.2 ∨ cs.size ≤ f.1 → f'.1 = f'.2 ∨ cs.size ≤ f'.1)) → K () H') : semVc P (markStringish ⟨b, o, none⟩) H K := by
  unfold markStringish
  have hs : hshape H b = some (e, cs.size) := by unfold hshape World.shape? wof; simp [h]
  refine semVc_bind _ _ _ _ _ ?_
  unfold shape
  simp only [semVc, hs]
  refine hK _ (hfreeze_size _ _ _) (fun k hk => hfreeze_block _ _ _ _ hk) ⟨_, hfreeze_cells h _, fun hf => ?_⟩
  split
  · exact .inr (Nat.le_refl _)
  · rename_i hne
    rcases hf with hf | hf
    · rw [hf] at hne; simp at hne
    · right; simp only; omega
/-- []byte([]byte) -/
theorem cvV_bb {P : Program} {t e : TypeId} {H : Heap} {b o n c : Nat} {cs : Array Value} {e2 : TypeId} {f : Nat × Nat} {K : Value → Heap → Prop} (h0 : P.underlying t = some (.slice e)) (h1 : P.underlying e = some (.int .u8))
    (h : H[b]? = some (.cells cs e2 f))
    (hK : ∀ H', H'.size = H.size → (∀ k, k ≠ b → H'[k]? = H[k]?) → (∃ f', H'[b]? = some (.cells cs e2 f') ∧ (f.1 = f.2 ∨ cs.size ≤ f.1 → f'.1 = f'.2 ∨ cs.size ≤ f'.1)) → K (.slice (some ⟨b, o, none⟩) n c) H') :
    cvV P t t (.slice (some ⟨b, o, none⟩) n c) H K := by
  unfold cvV convert
  refine semVc_bind _ _ _ _ _ (semVc_und h0 ?_)
  refine semVc_bind _ _ _ _ _ (semVc_und h0 ?_)
  simp only [beq_self_eq_true]
  refine semVc_bind _ _ _ _ _ (semVc_und h1 ?_)
  simp only
  exact semVc_bind _ _ _ _ _ (semVc_mark h fun H' s1 o1 e1 => hK H' s1 o1 e1)
/-- []byte(string) -/
theorem cvV_sb {P : Program} {t0 t e : TypeId} {H : Heap} {s : ByteArray} {K : Value → Heap → Prop} (h0 : P.underlying t0 = some .string) (h1 : P.underlying t = some (.slice e)) (h2 : P.underlying e = some (.int .u8)) (hn : s.size ≤ 2 ^ 40)
    (hK : ∀ H' c, OwnB (Upto H) e H' (some ⟨H.size, 0, none⟩) s.data.toList.length c s.data.toList → Grow H H' → K (.slice (some ⟨H.size, 0, none⟩) s.data.toList.length c) H') : cvV P t0 t (.string s) H K := by
  unfold cvV convert
  refine semVc_bind _ _ _ _ _ (semVc_und h0 ?_)
  refine semVc_bind _ _ _ _ _ (semVc_und h1 ?_)
  simp only
  refine semVc_bind _ _ _ _ _ (semVc_und h2 ?_)
  simp only [Conv.stringToBytes]
  refine semVc_bind _ _ _ _ _ ?_
  intro t
  have hcap := cut_cap s.size 0 e t
  generalize (Question.appendCap s.size 0 e).cut t = cap at hcap
  show semVc P _ H K
  refine semVc_bind _ _ _ _ _ (semVc_bind _ _ _ _ _ ?_)
  rintro r H1 rfl rfl
  refine semVc_bind _ _ _ _ _ (semVc_mark (hpush_new H _) fun H2 s2 o2 e2 => ?_)
  obtain ⟨f', e2, hf⟩ := e2
  have hlen : s.data.toList.length = s.size := by simp
  have hsz : (s.data.map (fun b : UInt8 => Value.int .u8 b.toNat) ++ Array.replicate (cap - s.size) (Value.int .u8 0)).size = cap := by simp; omega
  show K (.slice (some ⟨H.size, 0, none⟩) s.size cap) H2
  rw [← hlen]
  refine hK H2 cap ⟨⟨by simp, .inr ⟨H.size, _, rfl, Nat.lt_irrefl _, ⟨f', e2, hf (.inl rfl)⟩, by omega, by rw [hsz, Nat.mul_one], fun i v hi => ?_⟩⟩, by omega⟩ ⟨by rw [s2]; simp, fun k hk => by rw [o2 k (by omega), hpush_old _ hk]⟩
  rw [List.getElem?_map] at hi
  have hil : i < s.data.size := by
    rcases Nat.lt_or_ge i s.data.toList.length with h | h
    · simpa using h
    · rw [List.getElem?_eq_none h] at hi; cases hi
  rw [Array.getElem?_append_left (by simpa using hil), Array.getElem?_map]
  simpa [byteV] using hi
end Go.Vc
