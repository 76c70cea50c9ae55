/-
  Parts of a proof: see the row.
-/
import Derived.Test.YtljdcbcjdlpbgaaVcLib
set_option linter.unusedVariables false
set_option linter.unusedSimpArgs false
namespace Go.Vc

/-! ## pieces of the model's language that only look -/
theorem semVc_q {α : Type} (p : Program) (s : Sem α) : ∀ (H : Heap) (a : α) (K : α → Heap → Prop), qrun p s H = some a → K a H → semVc p s H K := by
  induction s with
  | pure a => intro H x K h hk; simp only [qrun, Option.some.injEq] at h; subst h; exact hk
  | load m a k ih =>
    intro H x K h hk
    simp only [qrun] at h
    split at h
    · rename_i v hv; exact ⟨v, hv, ih v H x K h hk⟩
    · cases h
  | shape r k ih => exact fun H x K h hk => ih _ H x K h hk
  | frozen a k ih => exact fun H x K h hk => ih _ H x K h hk
  | program k ih => exact fun H x K h hk => ih _ H x K h hk
  | mark m k ih => exact fun H x K h hk => ih H x K h hk
  | _ => intro H x K h; simp [qrun] at h
theorem semVc_und {P : Program} {t : TypeId} {d : TypeDesc} (h : P.underlying t = some d) {H : Heap} {K : TypeDesc → Heap → Prop} (hk : K d H) : semVc P (underlying t) H K := by
  unfold underlying program
  refine semVc_bind _ _ _ _ _ ?_
  simp only [semVc, h]; exact hk
theorem semVc_info {P : Program} {t : TypeId} {i : TypeInfo} (h : P.info? t = some i) {H : Heap} {K : TypeInfo → Heap → Prop} (hk : K i H) : semVc P (typeInfo t) H K := by
  unfold typeInfo program
  refine semVc_bind _ _ _ _ _ ?_
  simp only [semVc, h]; exact hk
theorem semVc_pure {α : Type} {P : Program} {a : α} {H : Heap} {K : α → Heap → Prop} (hk : K a H) : semVc P (pure a) H K := hk
theorem semVc_size {P : Program} {t : TypeId} {i : TypeInfo} (h : P.info? t = some i) {H : Heap} {K : Nat → Heap → Prop} (hk : K i.size H) : semVc P (sizeOf t) H K := by
  unfold sizeOf
  exact semVc_bind _ _ _ _ _ (semVc_info h (semVc_pure hk))
theorem semVc_zero {P : Program} {t : TypeId} {i : TypeInfo} {z : Value} (h : P.info? t = some i) (hz : i.zero = some z) {H : Heap} {K : Value → Heap → Prop} (hk : K z H) : semVc P (zeroValue t) H K := by
  unfold zeroValue
  refine semVc_bind _ _ _ _ _ (semVc_info h ?_)
  simp only [hz]; exact hk
theorem semVc_loadFrom {P : Program} {a : Addr} {H : Heap} : ∀ (vs : List Value) (i : Nat) (acc : Array Value) (K : Array Value → Heap → Prop), (∀ j v, vs[j]? = some v → hcell H (a.add (i + j)) = some v) →
    K (acc ++ vs.toArray) H → semVc P (loadCellsFrom a i vs.length acc) H K
  | [], i, acc, K, _, hk => by
    have hk : K acc H := by simpa using hk
    exact hk
  | v :: r, i, acc, K, h, hk => by
    refine semVc_bind _ _ _ _ _ ⟨v, by simpa using h 0 v rfl, ?_⟩
    refine semVc_loadFrom r (i + 1) (acc.push v) K (fun j u hj => by have := h (j + 1) u (by simpa using hj); rwa [show i + (j + 1) = i + 1 + j by omega] at this) ?_
    simpa using hk
theorem semVc_loadCells {P : Program} {b o : Nat} {H : Heap} {vs : List Value} {n : Nat} {K : Array Value → Heap → Prop} (hn : n = vs.length) (h : ∀ j v, vs[j]? = some v → hcell H ⟨b, o + j, none⟩ = some v) (hk : K vs.toArray H) :
    semVc P (loadCells ⟨b, o, none⟩ n) H K := by
  subst hn
  exact semVc_loadFrom vs 0 #[] K (fun j v hj => by rw [add_at]; simpa using h j v hj) (by simpa using hk)
/-- a row of cells, none of which is frozen -/
def CellsAt (H : Heap) (b : Nat) (cs : Array Value) (e : TypeId) : Prop := ∃ f : Nat × Nat, H[b]? = some (.cells cs e f) ∧ (f.1 = f.2 ∨ cs.size ≤ f.1)
theorem CellsAt.mk {H : Heap} {b : Nat} {cs : Array Value} {e : TypeId} (h : H[b]? = some (.cells cs e (0, 0))) : CellsAt H b cs e := ⟨_, h, .inl rfl⟩
theorem CellsAt.cell {H : Heap} {b o : Nat} {cs : Array Value} {e : TypeId} (h : CellsAt H b cs e) : hcell H ⟨b, o, none⟩ = cs[o]? := by obtain ⟨f, h, _⟩ := h; exact hcell_cells h
theorem CellsAt.lt {H : Heap} {b : Nat} {cs : Array Value} {e : TypeId} (h : CellsAt H b cs e) : b < H.size := by obtain ⟨f, h, _⟩ := h; exact hlt_of_block h
theorem CellsAt.of_block {H H' : Heap} {b : Nat} {cs : Array Value} {e : TypeId} (h : CellsAt H b cs e) (hb : H'[b]? = H[b]?) : CellsAt H' b cs e := by obtain ⟨f, h, k⟩ := h; exact ⟨f, hb.trans h, k⟩
theorem CellsAt.frozen {H : Heap} {b o : Nat} {cs : Array Value} {e : TypeId} (h : CellsAt H b cs e) (ho : o < cs.size) : hfrozen H ⟨b, o, none⟩ = false := by
  obtain ⟨f, h, k⟩ := h
  unfold hfrozen World.frozen? wof
  simp only [h]
  rw [Bool.and_eq_false_iff]
  simp only [decide_eq_false_iff_not]
  rcases k with k | k
  · omega
  · left; omega
theorem CellsAt.st {H : Heap} {b o : Nat} {c : Array Value} {T : TypeId} {v : Value} {k : Heap → Prop} (h : CellsAt H b c T) (ho : o < c.size) (hv : flat v = true)
    (hk : ∀ H', H'.size = H.size → (∀ i, i ≠ b → H'[i]? = H[i]?) → CellsAt H' b (c.setIfInBounds o v) T → k H') : stV ⟨b, o, none⟩ v H k := by
  refine ⟨hv, ⟨c[o], by rw [h.cell]; simp [ho]⟩, h.frozen ho, fun H' e => ?_⟩
  subst e
  obtain ⟨f, h, hf⟩ := h
  exact hk _ (hset_size _ _ _) (fun i hi => hset_block _ _ _ _ hi) ⟨f, hset_cells v h, by simpa using hf⟩
/-- cells from place o on replaced -/
def putRow (c : List Value) (o : Nat) : List Value → List Value
  | [] => c
  | v :: r => putRow (c.set o v) (o + 1) r
theorem putRow_length (o : Nat) (vs : List Value) : ∀ c o, (putRow c o vs).length = c.length := by
  induction vs with
  | nil => exact fun _ _ => rfl
  | cons v r ih => intro c o; simp [putRow, ih]
theorem putRow_get (vs : List Value) : ∀ (c : List Value) (o i : Nat), o + vs.length ≤ c.length → (putRow c o vs)[i]? = if o ≤ i ∧ i < o + vs.length then vs[i - o]? else c[i]? := by
  induction vs with
  | nil => intro c o i h; simp only [putRow, List.length_nil, Nat.add_zero]; rw [if_neg (by omega)]
  | cons v r ih =>
    intro c o i h
    simp only [List.length_cons] at h
    simp only [putRow]
    rw [ih _ _ _ (by simp; omega)]
    simp only [List.length_cons, List.getElem?_set]
    by_cases h1 : o + 1 ≤ i ∧ i < o + 1 + r.length
    · rw [if_pos h1, if_pos (by omega), show i - o = (i - (o + 1)) + 1 by omega, List.getElem?_cons_succ]
    · rw [if_neg h1]
      by_cases h2 : o = i
      · subst h2; rw [if_pos rfl, if_pos (by omega), if_pos (by omega)]; simp
      · rw [if_neg h2, if_neg (by omega)]
theorem semVc_storeFrom {P : Program} {b o : Nat} {T : TypeId} : ∀ (vs : List Value) (i : Nat) (c : List Value) (H : Heap) (K : Unit → Heap → Prop), (∀ v ∈ vs, flat v = true) → CellsAt H b c.toArray T → o + i + vs.length ≤ c.length →
    (∀ H', H'.size = H.size → (∀ k, k ≠ b → H'[k]? = H[k]?) → CellsAt H' b (putRow c (o + i) vs).toArray T → K () H') → semVc P (storeCells ⟨b, o, none⟩ vs i) H K
  | [], i, c, H, K, _, hb, _, hk => hk H rfl (fun _ _ => rfl) hb
  | v :: r, i, c, H, K, hf, hb, hl, hk => by
    simp only [List.length_cons] at hl
    unfold storeCells
    refine semVc_bind _ _ _ _ _ ?_
    rw [add_at]
    refine hb.st (by simp; omega) (hf v (by simp)) fun H1 s1 o1 e1 => ?_
    rw [List.setIfInBounds_toArray] at e1
    refine semVc_storeFrom r (i + 1) _ H1 K (fun u hu => hf u (by simp [hu])) e1 (by simp; omega) fun H2 s2 o2 e2 => ?_
    exact hk H2 (s2.trans s1) (fun k hkb => (o2 k hkb).trans (o1 k hkb)) (by simpa [putRow, Nat.add_assoc] using e2)

/-! ## sets of blocks -/
abbrev Fp := Nat → Prop
/-- outside of N nothing has changed; what is new in N' is new -/
structure Ext (N : Fp) (H : Heap) (N' : Fp) (H' : Heap) : Prop where
  size : H.size ≤ H'.size
  out : ∀ k, k < H.size → ¬ N k → H'[k]? = H[k]?
  fp : ∀ k, N' k → N k ∨ H.size ≤ k
theorem Ext.refl (N : Fp) (H : Heap) : Ext N H N H := ⟨Nat.le_refl _, fun _ _ _ => rfl, fun _ h => .inl h⟩
theorem Ext.trans {N N' N'' : Fp} {H H' H'' : Heap} (h : Ext N H N' H') (k : Ext N' H' N'' H'') : Ext N H N'' H'' :=
  ⟨Nat.le_trans h.size k.size, fun i hi hn => (k.out i (Nat.lt_of_lt_of_le hi h.size) fun hc => (h.fp i hc).elim hn fun h2 => by omega).trans (h.out i hi hn), fun i hi => (k.fp i hi).elim (fun h2 => h.fp i h2) fun h2 => .inr (Nat.le_trans h.size h2)⟩
/-- nothing that there was has changed -/
def Grow (H H' : Heap) : Prop := H.size ≤ H'.size ∧ ∀ k, k < H.size → H'[k]? = H[k]?
theorem Grow.refl (H : Heap) : Grow H H := ⟨Nat.le_refl _, fun _ _ => rfl⟩
theorem Grow.trans {a b c : Heap} (h : Grow a b) (k : Grow b c) : Grow a c := ⟨Nat.le_trans h.1 k.1, fun i hi => (k.2 i (Nat.lt_of_lt_of_le hi h.1)).trans (h.2 i hi)⟩
theorem Grow.push (H : Heap) (o : Obj) : Grow H (H.push o) := ⟨by simp, fun k hk => by rw [Array.getElem?_push, if_neg (by omega)]⟩
theorem Grow.of_old {H H' : Heap} (h : Old H.size H H') : Grow H H' := ⟨h.size, h.block⟩
theorem Grow.old {H H' : Heap} (h : Grow H H') {B : Nat} (hB : B ≤ H.size) : Old B H H' := ⟨h.1, fun k hk => h.2 k (by omega)⟩
theorem Grow.ext {H H' : Heap} (h : Grow H H') (N : Fp) : Ext N H N H' := ⟨h.1, fun k hk _ => h.2 k hk, fun _ hk => .inl hk⟩
theorem Grow.block {H H' : Heap} (h : Grow H H') {k : Nat} {o : Obj} (hk : H[k]? = some o) : H'[k]? = some o := by rw [h.2 k (hlt_of_block hk)]; exact hk
theorem Ext.block {N N' : Fp} {H H' : Heap} (h : Ext N H N' H') {k : Nat} {o : Obj} (hk : H[k]? = some o) (hn : ¬ N k) : H'[k]? = some o := by rw [h.out k (hlt_of_block hk) hn]; exact hk
theorem Ext.away {N N' : Fp} {H H' : Heap} (h : Ext N H N' H') {k : Nat} (hk : k < H.size) (hn : ¬ N k) : ¬ N' k := fun hc => (h.fp k hc).elim hn fun h2 => by omega
/-- all blocks that there are -/
def Upto (H : Heap) : Fp := fun k => k < H.size

/-! ## a slice of one's own: its block is none of N's -/
def Own (N : Fp) (e : TypeId) (sz : Nat) (H : Heap) (p : Option Addr) (n c : Nat) (xs : List Value) : Prop :=
  xs.length = n * sz ∧ ((p = none ∧ n = 0 ∧ c = 0) ∨
    ∃ (b : Nat) (cs : Array Value), p = some ⟨b, 0, none⟩ ∧ ¬ N b ∧ CellsAt H b cs e ∧ n ≤ c ∧ cs.size = c * sz ∧ ∀ (i : Nat) (v : Value), xs[i]? = some v → cs[i]? = some v)
theorem Own.nil (N : Fp) (e : TypeId) (sz : Nat) (H : Heap) : Own N e sz H none 0 0 [] := ⟨by simp, .inl ⟨rfl, rfl, rfl⟩⟩
theorem Own.row {N e sz H p n c xs} (h : Own N e sz H p n c xs) : rowIs H p xs := by
  obtain ⟨hl, ⟨_, rfl, _⟩ | ⟨b, cs, rfl, _, hb, _, _, hc⟩⟩ := h
  · exact .inl (by simpa using hl)
  · exact .inr ⟨b, 0, rfl, fun i v hv => by rw [Nat.zero_add, hb.cell]; exact hc i v hv⟩
theorem Own.mono {N N2 : Fp} {e sz H p n c xs} (h : Own N e sz H p n c xs) (hn : ∀ a, p = some a → ¬ N a.block → ¬ N2 a.block) : Own N2 e sz H p n c xs := by
  obtain ⟨hl, h | ⟨b, cs, rfl, hb, hH, h2, h3, hc⟩⟩ := h
  · exact ⟨hl, .inl h⟩
  · exact ⟨hl, .inr ⟨b, cs, rfl, hn _ rfl hb, hH, h2, h3, hc⟩⟩
theorem Own.of_block {N : Fp} {e sz H H' p n c xs} (h : Own N e sz H p n c xs) (hb : ∀ a, p = some a → H'[a.block]? = H[a.block]?) : Own N e sz H' p n c xs := by
  obtain ⟨hl, h | ⟨b, cs, rfl, hbn, hH, h2, h3, hc⟩⟩ := h
  · exact ⟨hl, .inl h⟩
  · exact ⟨hl, .inr ⟨b, cs, rfl, hbn, hH.of_block (hb _ rfl), h2, h3, hc⟩⟩
theorem Own.lt {N : Fp} {e sz H p n c xs} (h : Own N e sz H p n c xs) : ∀ a, p = some a → a.block < H.size := by
  obtain ⟨hl, ⟨rfl, _⟩ | ⟨b, cs, rfl, hbn, hH, h2, h3, hc⟩⟩ := h
  · intro a ha; cases ha
  · intro a ha; cases ha; exact hH.lt
theorem Own.not {N : Fp} {e sz H p n c xs} (h : Own N e sz H p n c xs) : ∀ a, p = some a → ¬ N a.block := by
  obtain ⟨hl, ⟨rfl, _⟩ | ⟨b, cs, rfl, hbn, hH, h2, h3, hc⟩⟩ := h
  · intro a ha; cases ha
  · intro a ha; cases ha; exact hbn
theorem Own.grow {N : Fp} {e sz H H' p n c xs} (h : Own N e sz H p n c xs) (g : Grow H H') : Own N e sz H' p n c xs := h.of_block fun a ha => g.2 _ (h.lt a ha)
theorem Own.cap {N : Fp} {e sz H p n c xs} (h : Own N e sz H p n c xs) : n ≤ c := by
  obtain ⟨hl, ⟨_, rfl, rfl⟩ | ⟨b, cs, rfl, hbn, hH, h2, h3, hc⟩⟩ := h
  · exact Nat.le_refl _
  · exact h2
/-- but for the block of p nothing that there was has changed -/
def Kept (p : Option Addr) (H H' : Heap) : Prop := H.size ≤ H'.size ∧ ∀ k, k < H.size → (∀ a, p = some a → a.block ≠ k) → H'[k]? = H[k]?
theorem Kept.grow {H H' : Heap} (h : Kept none H H') : Grow H H' := ⟨h.1, fun k hk => h.2 k hk fun _ ha => by cases ha⟩
theorem Kept.trans {p p' : Option Addr} {a b c : Heap} (h : Kept p a b) (k : Kept p' b c) (hp : p' = p ∨ ∃ x, p' = some x ∧ a.size ≤ x.block) : Kept p a c := by
  refine ⟨Nat.le_trans h.1 k.1, fun i hi hn => (k.2 i (Nat.lt_of_lt_of_le hi h.1) fun x hx => ?_).trans (h.2 i hi hn)⟩
  rcases hp with rfl | ⟨y, rfl, hy⟩
  · exact hn x hx
  · cases hx; omega
/-- from B on -/
theorem Kept.old {B : Nat} {p : Option Addr} {H H' : Heap} (h : Kept p H H') (ho : ∀ a, p = some a → B ≤ a.block) (hB : B ≤ H.size) : Old B H H' :=
  ⟨h.1, fun k hk => h.2 k (by omega) fun a ha => by have := ho a ha; omega⟩
theorem Kept.away {p : Option Addr} {H H' : Heap} {N : Fp} (h : Kept p H H') (hp : ∀ a, p = some a → ¬ N a.block) {k : Nat} (hk : k < H.size) (hn : N k) : H'[k]? = H[k]? :=
  h.2 k hk fun a ha e => hp a ha (e ▸ hn)
theorem rowIs_of {H H' : Heap} {p : Option Addr} {vs : List Value} (h : rowIs H p vs) (hb : ∀ a, p = some a → H'[a.block]? = H[a.block]?) : rowIs H' p vs := by
  rcases h with h | ⟨b, o, rfl, h⟩
  · exact .inl h
  · exact .inr ⟨b, o, rfl, fun i v hv => (hcell_of_block (a := ⟨b, o + i, none⟩) (hb ⟨b, o, none⟩ rfl)).trans (h i v hv)⟩

theorem cut_cap (need old : Nat) (e : TypeId) (t : Nat) : need ≤ (Question.appendCap need old e).cut t := by simp [Question.cut]
theorem grow_le (need : Nat) : ∀ (k c : Nat), c ≤ 2 * need → need ≤ 2 ^ 40 → Builtin.growBy need k c ≤ 2 ^ 42 := by
  intro k
  induction k with
  | zero => intro c h1 h2; simp only [Builtin.growBy]; omega
  | succ k ih =>
    intro c h1 h2
    simp only [Builtin.growBy]
    split
    · omega
    · rename_i hc
      by_cases h3 : c + (c + 768) / 4 ≤ 2 * need
      · exact ih _ h3 h2
      · -- past the need: it stops
        cases k with
        | zero => simp only [Builtin.growBy]; omega
        | succ k =>
          simp only [Builtin.growBy]
          rw [if_pos (by omega)]; omega
theorem next_le {need cap : Nat} (h : cap < need) (h2 : need ≤ 2 ^ 40) : Builtin.nextslicecap need cap ≤ 2 ^ 42 := by
  unfold Builtin.nextslicecap
  split
  · omega
  · split
    · omega
    · exact grow_le need 4 cap (by omega) h2
theorem semVc_ask {P : Program} {n : Nat} {H : Heap} {K : Unit → Heap → Prop} (hk : K () H) : semVc P (askRoom n) H K := by
  unfold askRoom; split
  · exact hk
  · exact hk
/-- **append**, of a row that is read, to a slice of the call's own -/
theorem appV_own {P : Program} {t0 t1 t e : TypeId} {i : TypeInfo} {z : Value} {N : Fp} {n c m mc : Nat} {p q : Option Addr} {xs ys : List Value} {H : Heap} {K : Value → Heap → Prop}
    (h0 : P.underlying t0 = some (.slice e)) (h1 : ∃ e1, P.underlying t1 = some (.slice e1)) (hi : P.info? e = some i) (hz : i.zero = some z) (hb : i.bytes ≤ 64) (hzc : z.cells.size = i.size)
    (ho : Own N e i.size H p n c xs) (hy : rowIs H q ys) (hm : ys.length = m * i.size) (hfl : ∀ v ∈ ys, flat v = true) (hn : n + m ≤ 2 ^ 40) (hB : ∀ k, N k → k < H.size)
    (hK : ∀ p' c' H', Own N e i.size H' p' (n + m) c' (xs ++ ys) → Kept p H H' → (p' = p ∨ ∃ a, p' = some a ∧ H.size ≤ a.block) → K (.slice p' (n + m) c') H') :
    appV P #[t0, t1] t #[.slice p n c, .slice q m mc] H K := by
  obtain ⟨e1, h1⟩ := h1
  unfold appV Builtin.append_
  simp only [List.getElem?_toArray, List.getElem?_cons_zero, List.getElem?_cons_succ]
  refine semVc_bind _ _ _ _ _ (semVc_und h0 ?_)
  simp only
  refine semVc_bind _ _ _ _ _ (semVc_size hi ?_)
  refine semVc_bind _ _ _ _ _ (semVc_und h1 ?_)
  refine semVc_bind _ _ _ _ _ (semVc_pure ?_)
  simp only [Bool.false_eq_true, if_false, Bool.not_false, if_true, Builtin.lenOf]
  refine semVc_bind _ _ _ _ _ (semVc_pure ?_)
  obtain ⟨hxl, ho⟩ := ho
  -- what is read of the second row
  have hread : ∀ (K2 : Array Value → Heap → Prop), K2 ys.toArray H → semVc P (Builtin.firstCells i.size m (.slice q m mc)) H K2 := fun K2 hk2 => by
    rcases hy with hy | ⟨b, o, rfl, hy⟩
    · subst hy
      have : m * i.size = 0 := by simpa using hm.symm
      cases q with
      | none => exact hk2
      | some a =>
        simp only [Builtin.firstCells, this]; exact hk2
    · simp only [Builtin.firstCells]
      exact semVc_loadCells hm.symm hy hk2
  by_cases hfit : n + m ≤ c
  · rw [if_pos hfit]
    refine semVc_bind _ _ _ _ _ (hread _ ?_)
    rcases ho with ⟨rfl, rfl, rfl⟩ | ⟨b, cs, rfl, hBb, hH, hnc, hcs, hc⟩
    · have hm0 : m = 0 := by omega
      subst hm0
      have hys : ys = [] := by simpa using hm
      have hxs : xs = [] := by simpa using hxl
      subst hys hxs
      exact hK none 0 H (Own.nil _ _ _ _) ⟨Nat.le_refl _, fun _ _ _ => rfl⟩ (.inl rfl)
    · simp only
      have hsz : n * i.size + m * i.size ≤ c * i.size := by rw [← Nat.add_mul]; exact Nat.mul_le_mul_right _ hfit
      refine semVc_bind _ _ _ _ _ ?_
      rw [add_at]
      obtain ⟨cl⟩ := cs
      have hcs' : cl.length = c * i.size := by simpa using hcs
      refine semVc_storeFrom (T := e) ys 0 cl H _ hfl hH (by omega) fun H' s1 o1 e1 => ?_
      refine hK _ c H' ⟨?_, .inr ⟨b, _, rfl, hBb, e1, hfit, by simp [putRow_length 0, hcs'], fun j v hj => ?_⟩⟩ ⟨by omega, fun k hk hne => o1 k (fun e => hne ⟨b, 0, none⟩ rfl e.symm)⟩ (.inl rfl)
      · rw [List.length_append, hxl, hm, Nat.add_mul]
      · simp only [Nat.zero_add, Nat.add_zero, List.getElem?_toArray]
        rw [putRow_get _ _ _ _ (by omega)]
        by_cases hj2 : j < xs.length
        · rw [if_neg (by omega)]
          rw [List.getElem?_append_left hj2] at hj
          simpa using hc j v hj
        · rw [List.getElem?_append_right (by omega)] at hj
          have hjl : j - xs.length < ys.length := by
            rcases Nat.lt_or_ge (j - xs.length) ys.length with h | h
            · exact h
            · rw [List.getElem?_eq_none h] at hj; cases hj
          rw [if_pos (by omega)]
          rw [show j - n * i.size = j - xs.length by omega]; exact hj
  · rw [if_neg hfit]
    refine semVc_bind _ _ _ _ _ (semVc_info hi ?_)
    rw [if_neg (by rw [IntKind.max_i64]; omega)]
    refine semVc_bind _ _ _ _ _ (semVc_info hi ?_)
    have hnx := next_le (cap := c) (by omega : c < n + m) hn
    have hnb : Builtin.nextslicecap (n + m) c * i.bytes ≤ 2 ^ 42 * 64 := Nat.mul_le_mul hnx hb
    rw [if_neg (by omega)]
    refine semVc_bind _ _ _ _ _ ?_
    intro t
    have hcap := cut_cap (n + m) c e t
    generalize (Question.appendCap (n + m) c e).cut t = cap at hcap
    show semVc P _ H K
    refine semVc_bind _ _ _ _ _ (semVc_info hi ?_)
    refine semVc_bind _ _ _ _ _ (semVc_ask ?_)
    have hold : ∀ (K2 : Array Value → Heap → Prop), K2 xs.toArray H → semVc P (Builtin.firstCells i.size n (.slice p n c)) H K2 := fun K2 hk2 => by
      rcases ho with ⟨rfl, rfl, rfl⟩ | ⟨b, cs, rfl, hBb, hH, hnc, hcs, hc⟩
      · have hxs : xs = [] := by simpa using hxl
        subst hxs; exact hk2
      · simp only [Builtin.firstCells]
        exact semVc_loadCells hxl.symm (fun j v hj => by rw [Nat.zero_add, hH.cell]; exact hc j v hj) hk2
    refine semVc_bind _ _ _ _ _ (hold _ ?_)
    refine semVc_bind _ _ _ _ _ (hread _ ?_)
    refine semVc_bind _ _ _ _ _ (semVc_zero hi hz ?_)
    refine semVc_bind _ _ _ _ _ (semVc_bind _ _ _ _ _ ?_)
    rintro r H' rfl rfl
    refine hK _ cap _ ⟨by rw [List.length_append, hxl, hm, Nat.add_mul], .inr ⟨H.size, _, rfl, fun hc => Nat.lt_irrefl _ (hB _ hc), .mk (hpush_new H _), hcap, ?_, fun j v hj => ?_⟩⟩ ⟨by simp, fun k hk _ => hpush_old _ hk⟩ (.inr ⟨_, rfl, Nat.le_refl _⟩)
    · simp only [Array.size_append, List.size_toArray, Builtin.zeroCells, Array.size_map, Array.size_range, hxl, hm, hzc]
      rw [← Nat.add_mul, ← Nat.add_mul]; congr 1; omega
    · rw [Array.getElem?_append_left (by
        have : j < (xs ++ ys).length := by
          rcases Nat.lt_or_ge j (xs ++ ys).length with h | h
          · exact h
          · rw [List.getElem?_eq_none h] at hj; cases hj
        simpa using this)]
      simpa using hj
/-! ## noughts -/
def zeroRow (z : Value) (n : Nat) : List Value := (List.replicate n z.cells.toList).flatten
theorem zeroRow_length (z : Value) (n : Nat) : (zeroRow z n).length = n * z.cells.size := by simp [zeroRow]
theorem zeroCells_row (z : Value) (n : Nat) : (Builtin.zeroCells z.cells n).toList = zeroRow z n := by
  unfold Builtin.zeroCells zeroRow
  simp only [Array.toList_map, Array.toList_range]
  induction n with
  | zero => simp
  | succ n ih =>
    rw [Nat.succ_mul, List.range_add, List.map_append, ih, List.replicate_succ', List.flatten_append]
    congr 1
    simp only [List.map_map, List.flatten_cons, List.flatten_nil, List.append_nil]
    apply List.ext_getElem
    · simp
    · intro i h1 h2
      have hi : i < z.cells.size := by simpa using h1
      simp [Nat.add_mod, Nat.mod_eq_of_lt hi, hi]
theorem zeroCells_row' (z : Value) (n : Nat) : ((Array.range (n * z.cells.size)).map (z.cells[· % z.cells.size]!)) = (zeroRow z n).toArray := by
  apply Array.toList_inj.1; rw [← zeroCells_row]; rfl
theorem zeroRow_one {z : Value} (h : z.cells = #[z]) (n : Nat) : zeroRow z n = List.replicate n z := by
  unfold zeroRow
  rw [h]
  induction n with
  | zero => rfl
  | succ n ih => rw [List.replicate_succ, List.flatten_cons, ih]; rfl
/-- **make**, of a slice -/
theorem msV_own {P : Program} {t e : TypeId} {i : TypeInfo} {z : Value} {n : Nat} {H : Heap} {K : Value → Heap → Prop}
    (h0 : P.underlying t = some (.slice e)) (hi : P.info? e = some i) (hz : i.zero = some z) (hb : i.bytes ≤ 64) (hzc : z.cells.size = i.size) (hn : n ≤ 2 ^ 40)
    (hK : ∀ H', Own (Upto H) e i.size H' (some ⟨H.size, 0, none⟩) n n (zeroRow z n) → Grow H H' → H'.size = H.size + 1 → K (.slice (some ⟨H.size, 0, none⟩) n n) H') : msV P t (.int .i64 n) (.int .i64 n) H K := by
  unfold msV Instr.makeSlice
  refine semVc_bind _ _ _ _ _ (semVc_und h0 ?_)
  simp only [asInt, asIntOf]
  refine semVc_bind _ _ _ _ _ (semVc_pure ?_)
  refine semVc_bind _ _ _ _ _ (semVc_pure ?_)
  refine semVc_bind _ _ _ _ _ (semVc_info hi ?_)
  have hw : IntKind.wrap .i64 (n : Int) = n := wrap_i64 (by omega) (by omega)
  simp only [hw]
  have hbn : (i.bytes : Int) * n ≤ 2 ^ 48 := by
    have : i.bytes * n ≤ 64 * 2 ^ 40 := Nat.mul_le_mul hb hn
    have h2 : ((i.bytes * n : Nat) : Int) ≤ ((64 * 2 ^ 40 : Nat) : Int) := Int.ofNat_le.mpr this
    rw [Int.natCast_mul] at h2
    omega
  rw [if_neg (by simp only [Bool.or_eq_true, decide_eq_true_eq, not_or]; refine ⟨⟨⟨?_, ?_⟩, ?_⟩, ?_⟩ <;> omega)]
  refine semVc_bind _ _ _ _ _ (semVc_ask ?_)
  refine semVc_bind _ _ _ _ _ (semVc_size hi ?_)
  simp only [Int.toNat_natCast]
  have key : ∀ zs : Array Value, zs = (if n * i.size = 0 then #[] else z.cells) → semVc P (do
      let a ← newRow e ((Array.range (n * i.size)).map (zs[· % zs.size]!))
      pure (.slice (some a) n n)) H K := fun zs hzs => by
    refine semVc_bind _ _ _ _ _ (semVc_bind _ _ _ _ _ ?_)
    rintro r H' rfl rfl
    have hrow : (Array.range (n * i.size)).map (zs[· % zs.size]!) = (zeroRow z n).toArray := by
      by_cases h0 : n * i.size = 0
      · have : zeroRow z n = [] := by apply List.eq_nil_of_length_eq_zero; rw [zeroRow_length, hzc, h0]
        rw [this, h0]; simp
      · rw [hzs, if_neg h0, ← hzc]; exact zeroCells_row' z n
    rw [hrow]
    refine hK _ ⟨by rw [zeroRow_length, hzc], .inr ⟨H.size, _, rfl, Nat.lt_irrefl _, .mk (hpush_new H _), Nat.le_refl _, by simp [zeroRow_length, hzc], fun j v hj => by simpa using hj⟩⟩ (Grow.push _ _) (by simp)
  by_cases h0 : n * i.size = 0
  · rw [if_pos h0]
    exact semVc_bind _ _ _ _ _ (semVc_pure (key #[] (by rw [if_pos h0])))
  · rw [if_neg h0]
    exact semVc_bind _ _ _ _ _ (semVc_zero hi hz (semVc_bind _ _ _ _ _ (semVc_pure (key _ (by rw [if_neg h0])))))
/-- **append(s, make([]T, m)...)**, to a slice of the call's own -/
theorem appV_zeros {P : Program} {t0 t1 t e : TypeId} {ik : IntKind} {i : TypeInfo} {z : Value} {N : Fp} {n c m : Nat} {p : Option Addr} {xs : List Value} {H : Heap} {K : Value → Heap → Prop}
    (h0 : P.underlying t0 = some (.slice e)) (h1 : P.underlying t1 = some (.int ik)) (hi : P.info? e = some i) (hz : i.zero = some z) (hb : i.bytes ≤ 64) (hb0 : 0 < i.bytes) (hzc : z.cells.size = i.size)
    (hzf : ∀ v ∈ z.cells.toList, flat v = true)
    (ho : Own N e i.size H p n c xs) (hn : n + m ≤ 2 ^ 40) (hB : ∀ k, N k → k < H.size)
    (hK : ∀ p' c' H', Own N e i.size H' p' (n + m) c' (xs ++ zeroRow z m) → Kept p H H' → (p' = p ∨ ∃ a, p' = some a ∧ H.size ≤ a.block) → K (.slice p' (n + m) c') H') :
    appV P #[t0, t1] t #[.slice p n c, .int .i64 m] H K := by
  have hy : (zeroRow z m).length = m * i.size := by rw [zeroRow_length, hzc]
  have hfl : ∀ v ∈ zeroRow z m, flat v = true := fun v hv => by
    simp only [zeroRow, List.mem_flatten, List.mem_replicate] at hv
    obtain ⟨l, ⟨_, rfl⟩, hv⟩ := hv; exact hzf v hv
  unfold appV Builtin.append_
  simp only [List.getElem?_toArray, List.getElem?_cons_zero, List.getElem?_cons_succ]
  refine semVc_bind _ _ _ _ _ (semVc_und h0 ?_)
  simp only
  refine semVc_bind _ _ _ _ _ (semVc_size hi ?_)
  refine semVc_bind _ _ _ _ _ (semVc_und h1 ?_)
  refine semVc_bind _ _ _ _ _ (semVc_pure ?_)
  simp only [if_true, Bool.not_true, Bool.false_eq_true, if_false]
  refine semVc_bind _ _ _ _ _ (semVc_bind _ _ _ _ _ (semVc_pure (semVc_pure ?_)))
  have hw : IntKind.wrap .i64 (m : Int) = m := wrap_i64 (by omega) (by omega)
  simp only [hw]
  have hz0 : ∀ (K2 : Array Value → Heap → Prop), K2 (zeroRow z m).toArray H → semVc P (if (m * i.size = 0) then pure #[] else do
      let x ← zeroValue e
      pure (Builtin.zeroCells x.cells m)) H K2 := fun K2 hk2 => by
    by_cases h : m * i.size = 0
    · rw [if_pos h]
      have : zeroRow z m = [] := by apply List.eq_nil_of_length_eq_zero; rw [hy, h]
      rw [this] at hk2; exact hk2
    · rw [if_neg h]
      refine semVc_bind _ _ _ _ _ (semVc_zero hi hz (semVc_pure ?_))
      rw [show Builtin.zeroCells z.cells m = (zeroRow z m).toArray from Array.toList_inj.1 (zeroCells_row z m)]; exact hk2
  rw [if_neg (by omega)]
  refine semVc_bind _ _ _ _ _ (semVc_info hi ?_)
  have hbn : (m : Int) * i.bytes ≤ 2 ^ 48 := by
    have : m * i.bytes ≤ 2 ^ 40 * 64 := Nat.mul_le_mul (by omega) hb
    have h2 : ((m * i.bytes : Nat) : Int) ≤ ((2 ^ 40 * 64 : Nat) : Int) := Int.ofNat_le.mpr this
    rw [Int.natCast_mul] at h2
    omega
  rw [if_neg (by omega)]
  refine semVc_bind _ _ _ _ _ (semVc_pure ?_)
  simp only [Int.toNat_natCast]
  obtain ⟨hxl, ho⟩ := ho
  by_cases hfit : n + m ≤ c
  · rw [if_pos hfit]
    refine semVc_bind _ _ _ _ _ (hz0 _ ?_)
    rcases ho with ⟨rfl, rfl, rfl⟩ | ⟨b, cs, rfl, hBb, hH, hnc, hcs, hc⟩
    · have hm0 : m = 0 := by omega
      subst hm0
      have hys : zeroRow z 0 = [] := rfl
      have hxs : xs = [] := by simpa using hxl
      subst hxs
      exact hK none 0 H (by rw [hys]; exact Own.nil _ _ _ _) ⟨Nat.le_refl _, fun _ _ _ => rfl⟩ (.inl rfl)
    · simp only
      have hsz : n * i.size + m * i.size ≤ c * i.size := by rw [← Nat.add_mul]; exact Nat.mul_le_mul_right _ hfit
      refine semVc_bind _ _ _ _ _ ?_
      rw [add_at]
      obtain ⟨cl⟩ := cs
      have hcs' : cl.length = c * i.size := by simpa using hcs
      refine semVc_storeFrom (T := e) (zeroRow z m) 0 cl H _ hfl hH (by omega) fun H' s1 o1 e1 => ?_
      refine hK _ c H' ⟨?_, .inr ⟨b, _, rfl, hBb, e1, hfit, by simp [putRow_length 0, hcs'], fun j v hj => ?_⟩⟩ ⟨by omega, fun k hk hne => o1 k (fun e => hne ⟨b, 0, none⟩ rfl e.symm)⟩ (.inl rfl)
      · rw [List.length_append, hxl, hy, Nat.add_mul]
      · simp only [Nat.zero_add, Nat.add_zero, List.getElem?_toArray]
        rw [putRow_get _ _ _ _ (by omega)]
        by_cases hj2 : j < xs.length
        · rw [if_neg (by omega)]
          rw [List.getElem?_append_left hj2] at hj
          simpa using hc j v hj
        · rw [List.getElem?_append_right (by omega)] at hj
          have hjl : j - xs.length < (zeroRow z m).length := by
            rcases Nat.lt_or_ge (j - xs.length) (zeroRow z m).length with h | h
            · exact h
            · rw [List.getElem?_eq_none h] at hj; cases hj
          rw [if_pos (by omega)]
          rw [show j - n * i.size = j - xs.length by omega]; exact hj
  · rw [if_neg hfit]
    refine semVc_bind _ _ _ _ _ (semVc_info hi ?_)
    rw [if_neg (by rw [IntKind.max_i64]; omega)]
    refine semVc_bind _ _ _ _ _ (semVc_info hi ?_)
    have hnx := next_le (cap := c) (by omega : c < n + m) hn
    have hnb : Builtin.nextslicecap (n + m) c * i.bytes ≤ 2 ^ 42 * 64 := Nat.mul_le_mul hnx hb
    rw [if_neg (by omega)]
    refine semVc_bind _ _ _ _ _ ?_
    intro t
    have hcap := cut_cap (n + m) c e t
    generalize (Question.appendCap (n + m) c e).cut t = cap at hcap
    show semVc P _ H K
    refine semVc_bind _ _ _ _ _ (semVc_info hi ?_)
    refine semVc_bind _ _ _ _ _ (semVc_ask ?_)
    have hold : ∀ (K2 : Array Value → Heap → Prop), K2 xs.toArray H → semVc P (Builtin.firstCells i.size n (.slice p n c)) H K2 := fun K2 hk2 => by
      rcases ho with ⟨rfl, rfl, rfl⟩ | ⟨b, cs, rfl, hBb, hH, hnc, hcs, hc⟩
      · have hxs : xs = [] := by simpa using hxl
        subst hxs; exact hk2
      · simp only [Builtin.firstCells]
        exact semVc_loadCells hxl.symm (fun j v hj => by rw [Nat.zero_add, hH.cell]; exact hc j v hj) hk2
    refine semVc_bind _ _ _ _ _ (hold _ ?_)
    refine semVc_bind _ _ _ _ _ (hz0 _ ?_)
    refine semVc_bind _ _ _ _ _ (semVc_zero hi hz ?_)
    refine semVc_bind _ _ _ _ _ (semVc_bind _ _ _ _ _ ?_)
    rintro r H' rfl rfl
    refine hK _ cap _ ⟨by rw [List.length_append, hxl, hy, Nat.add_mul], .inr ⟨H.size, _, rfl, fun hc => Nat.lt_irrefl _ (hB _ hc), .mk (hpush_new H _), hcap, ?_, fun j v hj => ?_⟩⟩ ⟨by simp, fun k hk _ => hpush_old _ hk⟩ (.inr ⟨_, rfl, Nat.le_refl _⟩)
    · simp only [Array.size_append, List.size_toArray, Builtin.zeroCells, Array.size_map, Array.size_range, hxl, hy, hzc]
      rw [← Nat.add_mul, ← Nat.add_mul]; congr 1; omega
    · rw [Array.getElem?_append_left (by
        have : j < (xs ++ zeroRow z m).length := by
          rcases Nat.lt_or_ge j (xs ++ zeroRow z m).length with h | h
          · exact h
          · rw [List.getElem?_eq_none h] at hj; cases hj
        simpa using this)]
      simpa using hj
end Go.Vc
