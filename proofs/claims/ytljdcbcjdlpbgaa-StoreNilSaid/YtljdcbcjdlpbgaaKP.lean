/-
  Parts of a proof: see the row.
-/
import Derived.Test.YtljdcbcjdlpbgaaAP
import Derived.Test.YtljdcbcjdlpbgaaBP
import Derived.Test.YtljdcbcjdlpbgaaKV
set_option linter.unusedVariables false
set_option linter.unusedSimpArgs false
open Go Go.Vc Go.V2 Go.Proofs
namespace Go.Proofs.Ash
set_option maxRecDepth 100000

/-! ## contracts of before, in the new form -/
theorem _root_.Go.Vc.OwnB.im {H H' : Heap} {G : FF} {e : TypeId} {p : Option Addr} {n c : Nat} {xs : Bytes} (o : OwnB (Upto H) e H' p n c xs) (w : WF G H) : Bs G.x H' p n c xs := o.bs.mono fun k _ hn hx => hn (w.lt k hx)
theorem cloneB_spec {N : Fp} {p : Option Addr} {n c : Nat} {xs : Bytes} {H : Heap} (h : Bs N H p n c xs) :
    HP Try.prog F.slices_Clone_Sbyte_byte [.sl] #[.slice p n c] H fun q m mc _ H' => m = xs.length ∧ OwnB (Upto H) T.uint8 H' q m mc xs :=
  HX.of_hc (clone_spec h) fun _ v H' hv => by
    obtain ⟨g, q, mc, rfl, o⟩ := hv
    exact ⟨g, [.slice q xs.length mc], rfl, rfl, o⟩

/-! ## a disk -/
structure DiskS where
  is : List Bytes
  kept : List Bytes
  list : List (Nat × Bytes)
  fuse : Int
  down : Bool
/-- blocks of bytes, read only -/
def RowsB (N : Fp) (H : Heap) (vs : List Value) (L : List Bytes) : Prop := vs.length = L.length ∧ ∀ i, i < L.length → ∃ q mc, vs[i]? = some (.slice q 256 mc) ∧ Bs N H q 256 mc (L.getD i [])
theorem RowsB.ext {N N' : Fp} {H H' : Heap} {vs : List Value} {L : List Bytes} (h : RowsB N H vs L) (x : Ext N H N' H') : RowsB N' H' vs L :=
  ⟨h.1, fun i hi => by obtain ⟨q, mc, h1, h2⟩ := h.2 i hi; exact ⟨q, mc, h1, h2.ext x⟩⟩
/-- Writes that were not flushed: a number and a block each -/
def RowsW (N : Fp) (H : Heap) (vs : List Value) (L : List (Nat × Bytes)) : Prop := vs.length = L.length * 2 ∧ ∀ i, i < L.length → ∃ q mc, vs[i * 2]? = some (.int .i64 ((L.getD i (0, [])).1 : Nat)) ∧ vs[i * 2 + 1]? = some (.slice q 256 mc) ∧ Bs N H q 256 mc (L.getD i (0, [])).2
theorem RowsW.ext {N N' : Fp} {H H' : Heap} {vs : List Value} {L : List (Nat × Bytes)} (h : RowsW N H vs L) (x : Ext N H N' H') : RowsW N' H' vs L :=
  ⟨h.1, fun i hi => by obtain ⟨q, mc, h1, h2, h3⟩ := h.2 i hi; exact ⟨q, mc, h1, h2, h3.ext x⟩⟩
def notW (G : FF) (b : Nat) : Fp := fun k => ¬ G.w k ∨ k = b
def apartP (p q : Option Addr) : Prop := ∀ a a', p = some a → q = some a' → a.block ≠ a'.block
structure DiskIn (G : FF) (H : Heap) (b : Nat) (D : DiskS) (p1 p2 p3 : Option Addr) (c1 c2 c3 : Nat) (v1 v2 v3 : List Value) : Prop where
  wb : G.w b
  cells : CellsAt H b #[.slice p1 D.is.length c1, .slice p2 D.is.length c2, .slice p3 D.list.length c3, .int .i64 D.fuse, .bool D.down] T.disk_Disk
  own1 : Own (notW G b) T.S_uint8 1 H p1 D.is.length c1 v1
  own2 : Own (notW G b) T.S_uint8 1 H p2 D.is.length c2 v2
  own3 : Own (notW G b) T.disk_wrote 2 H p3 D.list.length c3 v3
  row1 : RowsB G.x H v1 D.is
  row2 : RowsB G.x H v2 D.kept
  row3 : RowsW G.x H v3 D.list
  ap12 : apartP p1 p2
  ap13 : apartP p1 p3
  ap23 : apartP p2 p3
  len : D.kept.length = D.is.length
  most : D.is.length ≤ 2000
  many : D.list.length ≤ 2 ^ 39
  fuse : -1 ≤ D.fuse ∧ D.fuse ≤ 9223372036854775807
  nums : ∀ i, i < D.list.length → (D.list.getD i (0, [])).1 < D.is.length
def DiskAt (G : FF) (H : Heap) (b : Nat) (D : DiskS) : Prop := ∃ p1 p2 p3 c1 c2 c3 v1 v2 v3, DiskIn G H b D p1 p2 p3 c1 c2 c3 v1 v2 v3
/-- steps that leave what is written here, and what is read, alone -/
structure Away (G : FF) (H : Heap) (G' : FF) (H' : Heap) : Prop where
  same : ∀ k, k < H.size → (G.w k ∨ ¬ G.x k) → H'[k]? = H[k]?
  w : ∀ k, G.w k → G'.w k
  x : ∀ k, G'.x k → G.x k ∨ H.size ≤ k
  size : H.size ≤ H'.size
theorem Away.grow {G : FF} {H H' : Heap} (g : Grow H H') : Away G H G H' := ⟨fun k hk _ => g.2 k hk, fun _ h => h, fun _ h => .inl h, g.1⟩
theorem Away.sto {G G' : FF} {H H' : Heap} (s : Sto G H G' H') : Away G H G' H' := ⟨s.out, fun k hk => by rw [s.w]; exact hk, s.xfp, s.size⟩
theorem Away.add {G : FF} {H H' : Heap} (g : Grow H H') {r : Nat} (hr : H.size ≤ r) : Away G H (G.add r) H' := ⟨fun k hk _ => g.2 k hk, fun _ h => .inl h, fun k hk => hk.imp id fun e => by omega, g.1⟩
theorem Away.ext {G G' : FF} {H H' : Heap} (a : Away G H G' H') : Ext G.x H G'.x H' := ⟨a.size, fun k hk hn => a.same k hk (.inr hn), a.x⟩
theorem Away.trans {G G' K : FF} {H H' J : Heap} (a : Away G H G' H') (b : Away G' H' K J) (hs : ∀ k, G.w k → k < H.size) : Away G H K J where
  same k hk hh := by
    rw [b.same k (Nat.lt_of_lt_of_le hk a.size) ?_]
    · exact a.same k hk hh
    · rcases hh with hh | hh
      · exact .inl (a.w k hh)
      · exact .inr fun hc => (a.x k hc).elim hh fun h => by omega
  w k hk := b.w k (a.w k hk)
  x k hk := (b.x k hk).elim (a.x k) fun h => .inr (Nat.le_trans a.size h)
  size := Nat.le_trans a.size b.size
theorem Own.away {G G' : FF} {H H' : Heap} {b sz n c : Nat} {e : TypeId} {p : Option Addr} {vs : List Value} (h : Own (notW G b) e sz H p n c vs) (a : Away G H G' H') : Own (notW G' b) e sz H' p n c vs :=
  (h.of_block fun q hq => a.same _ (h.lt q hq) (.inl (Classical.not_not.mp fun hc => h.not q hq (.inl hc)))).mono fun q hq hn => fun hc => hc.elim (fun h1 => h1 (a.w _ (Classical.not_not.mp fun h2 => hn (.inl h2)))) fun h1 => hn (.inr h1)
theorem DiskIn.away {G G' : FF} {H H' : Heap} {b : Nat} {D : DiskS} {p1 p2 p3 c1 c2 c3 v1 v2 v3} (h : DiskIn G H b D p1 p2 p3 c1 c2 c3 v1 v2 v3) (a : Away G H G' H') : DiskIn G' H' b D p1 p2 p3 c1 c2 c3 v1 v2 v3 :=
  { wb := a.w b h.wb, cells := h.cells.of_block (a.same b h.cells.lt (.inl h.wb)), own1 := Own.away h.own1 a, own2 := Own.away h.own2 a, own3 := Own.away h.own3 a,
    row1 := h.row1.ext a.ext, row2 := h.row2.ext a.ext, row3 := h.row3.ext a.ext, ap12 := h.ap12, ap13 := h.ap13, ap23 := h.ap23, len := h.len, most := h.most, many := h.many, fuse := h.fuse, nums := h.nums }
theorem DiskAt.away {G G' : FF} {H H' : Heap} {b : Nat} {D : DiskS} (h : DiskAt G H b D) (a : Away G H G' H') : DiskAt G' H' b D := by
  obtain ⟨p1, p2, p3, c1, c2, c3, v1, v2, v3, h⟩ := h
  exact ⟨p1, p2, p3, c1, c2, c3, v1, v2, v3, h.away a⟩
theorem DiskAt.grow {G : FF} {H H' : Heap} {b : Nat} {D : DiskS} (h : DiskAt G H b D) (g : Grow H H') : DiskAt G H' b D := h.away (.grow g)

theorem diskBlocks_spec {G : FF} {H : Heap} {b : Nat} {D : DiskS} (h : DiskAt G H b D) : HP Try.prog F.disk_Disk_Blocks [.int .i64] #[.pointer (some ⟨b, 0, none⟩)] H fun n _ H' => H = H' ∧ n = D.is.length := by
  obtain ⟨p1, p2, p3, c1, c2, c3, v1, v2, v3, h⟩ := h
  exact diskBlocks_vc _ E H _ (br_false rfl ⟨_, _, _, by rw [h.cells.cell]; rfl, rfl, rfl⟩)
theorem diskBlocks_nil (H : Heap) : HP Try.prog F.disk_Disk_Blocks [.int .i64] #[.pointer none] H fun n _ H' => H = H' ∧ n = 0 := diskBlocks_vc _ E H _ (br_true rfl ⟨rfl, rfl⟩)
theorem diskHas_spec {G : FF} {H : Heap} {b : Nat} {D : DiskS} (h : DiskAt G H b D) (n : Int) : HP Try.prog F.disk_Disk_has [.bool] #[.pointer (some ⟨b, 0, none⟩), .int .i64 n] H fun r _ H' => H = H' ∧ r = decide (0 ≤ n ∧ n < D.is.length) := by
  refine diskHas_vc _ n E H _ (br_dec (fun h1 => (diskBlocks_spec h).pure fun _ => ?_) fun h1 => ⟨rfl, ?_⟩)
  · rintro _ _ _ _ ⟨rfl, rfl⟩
    exact ⟨rfl, by simp only [decide_eq_decide]; omega⟩
  · rw [decide_eq_false (by omega)]
theorem diskHas_nil (H : Heap) (n : Int) : HP Try.prog F.disk_Disk_has [.bool] #[.pointer none, .int .i64 n] H fun r _ H' => H = H' ∧ r = false := by
  refine diskHas_vc _ n E H _ (br_dec (fun h1 => (diskBlocks_nil H).pure fun _ => ?_) fun h1 => ⟨rfl, rfl⟩)
  rintro _ _ _ _ ⟨rfl, rfl⟩
  exact ⟨rfl, decide_eq_false (by omega)⟩
/-- the answer of a call that hands back bytes and an error -/
def diskReadR (D : DiskS) (n : Int) : Bytes × Int := if ¬ (0 ≤ n ∧ n < D.is.length) then ([], 1) else if D.down then ([], 2) else (D.is.getD n.toNat [], 0)
theorem diskRead_spec {G : FF} {H : Heap} {b : Nat} {D : DiskS} (h : DiskAt G H b D) (n : Int) :
    HP Try.prog F.disk_Disk_Read [.sl, .int .i64] #[.pointer (some ⟨b, 0, none⟩), .int .i64 n] H fun q m mc e _ H' => e = (diskReadR D n).2 ∧ m = (diskReadR D n).1.length ∧ OwnB (Upto H) T.uint8 H' q m mc (diskReadR D n).1 := by
  refine diskRead_vc _ n E H _ ((diskHas_spec h n).pure fun _ => ?_)
  rintro _ _ _ _ ⟨rfl, rfl⟩
  obtain ⟨p1, p2, p3, c1, c2, c3, v1, v2, v3, h⟩ := h
  unfold diskReadR
  refine br_not (br_dec (fun h1 => ?_) fun h1 => ?_)
  · rw [if_neg (by simpa using h1)]
    refine ⟨D.down, by rw [h.cells.cell]; rfl, br_intro (fun h2 => ?_) fun h2 => ?_⟩
    · rw [if_pos h2]; exact ⟨rfl, rfl, .nil _ _ _ _, by simp⟩
    · rw [if_neg (by simp [h2])]
      refine ⟨_, _, _, by rw [h.cells.cell]; rfl, ⟨by omega, by omega⟩, ?_⟩
      obtain ⟨q, mc, e1, e2⟩ := h.row1.2 n.toNat (by omega)
      refine h.own1.toRow.ld (i := n.toNat * 1) (v := .slice q 256 mc) (by simpa using e1) fun bb oo _ _ hc => ⟨_, _, _, hc, (cloneB_spec e2).pure fun _ => ?_⟩
      rintro q2 m2 mc2 _ H' g ⟨rfl, o⟩
      exact ⟨rfl, rfl, o⟩
  · rw [if_pos (by simpa using h1)]; exact ⟨rfl, rfl, .nil _ _ _ _, by simp⟩

/-! ## slices that one may write -/
theorem notW_w {G : FF} {b k : Nat} (h : ¬ notW G b k) : G.w k ∧ k ≠ b := ⟨Classical.not_not.mp fun hc => h (.inl hc), fun e => h (.inr e)⟩
theorem same_out {H H' : Heap} (s : H'.size = H.size) {p : Option Addr} (k : Kept p H H') {b : Nat} (hp : ∀ a, p = some a → a.block = b) : ∀ i, i ≠ b → H'[i]? = H[i]? := fun i hi => by
  rcases Nat.lt_or_ge i H.size with h | h
  · exact k.2 i h fun a ha e => hi (by rw [← e, hp a ha])
  · rw [Array.getElem?_eq_none h, Array.getElem?_eq_none (by omega)]
theorem stW {G : FF} {b sz n c i : Nat} {e : TypeId} {H : Heap} {p : Option Addr} {vs : List Value} {v : Value} (h : Own (notW G b) e sz H p n c vs) (hi : i < vs.length) (hf : flat v = true) {K : FF → Heap → Prop}
    (hk : ∀ H', Kept p H H' → H'.size = H.size → Own (notW G b) e sz H' p n c (vs.set i v) → K G H') : ptrK p fun bb oo => stV ⟨bb, oo + i, none⟩ v H fun H' => stepX G H H' fun G' => K G' H' :=
  h.st hi hf fun b' hp st => st _ fun H' kp s o => by
    refine stepX_own (notW_w (h.not _ hp)).1 s (same_out s kp fun a ha => ?_) (hk H' kp s o)
    rw [hp] at ha; cases ha; rfl
theorem appW {t0 t1 t e : TypeId} {i : TypeInfo} {z : Value} {G : FF} {b n c m mc : Nat} {p q : Option Addr} {xs ys : List Value} {H : Heap} {K : Option Addr → Nat → Nat → FF → Heap → Prop}
    (h0 : Try.prog.underlying t0 = some (.slice e)) (h1 : ∃ e1, Try.prog.underlying t1 = some (.slice e1)) (hi : Try.prog.info? e = some i) (hz : i.zero = some z) (hb : i.bytes ≤ 64) (hzc : z.cells.size = i.size)
    (ho : Own (notW G b) e i.size H p n c xs) (hbw : G.w b) (hy : rowIs H q ys) (hm : ys.length = m * i.size) (hfl : ∀ v ∈ ys, flat v = true) (hn : n + m ≤ 2 ^ 40)
    (hK : ∀ p' c' H', Own (notW (G.upto H H') b) e i.size H' p' (n + m) c' (xs ++ ys) → Kept p H H' → (p' = p ∨ ∃ a, p' = some a ∧ H.size ≤ a.block) → K p' (n + m) c' (G.upto H H') H') :
    appV Try.prog #[t0, t1] t #[.slice p n c, .slice q m mc] H fun v H' => ∃ p' n' c', v = Value.slice p' n' c' ∧ stepX G H H' fun G' => K p' n' c' G' H' := by
  refine appV_own (N := fun k => k < H.size ∧ notW G b k) h0 h1 hi hz hb hzc (ho.mono fun _ _ hh hc => hh hc.2) hy hm hfl hn (fun k hk => hk.1) fun p' c' H' o kp hp => ⟨_, _, _, rfl, fun w => ?_⟩
  have hpw : ∀ a, p = some a → G.w a.block := fun a ha => (notW_w (ho.not a ha)).1
  refine ⟨G.upto H H', ⟨kp.1, fun k hk hn => kp.2 k hk fun a ha e => hn (e ▸ hpw a ha), fun k hk => hk.imp id fun h => h.1, fun k hk => .inl hk, fun k hk => hk.imp id fun h => h.1⟩,
    ⟨fun k hk => hk.elim (fun h => Nat.lt_of_lt_of_le (w.lt k h) kp.1) fun h => h.2, fun k hk => hk.imp (w.sub k) id⟩, hK p' c' H' (o.mono fun a ha hh hc => ?_) kp hp⟩
  have hlt := o.lt a ha
  rcases hc with hc | hc
  · have hnw : ¬ G.w a.block := fun h => hc (.inl h)
    rcases Nat.lt_or_ge a.block H.size with h | h
    · exact hh ⟨h, .inl hnw⟩
    · exact hc (.inr ⟨h, hlt⟩)
  · exact hh ⟨by rw [hc]; exact w.lt b (w.sub b hbw), .inr hc⟩
theorem Away.upto {G : FF} {H H' : Heap} (g : Grow H H') : Away G H (G.upto H H') H' := ⟨fun k hk _ => g.2 k hk, fun _ h => .inl h, fun k hk => hk.imp id fun e => e.1, g.1⟩
/-- but for one block all is as it was: what is read, and what is written elsewhere -/
theorem rows_keep {G G' : FF} {H H' : Heap} {p : Option Addr} (k : Kept p H H') (hp : ∀ a, p = some a → G.x a.block) (hx : ∀ k, G'.x k → G.x k ∨ H.size ≤ k) : Ext G.x H G'.x H' :=
  ⟨k.1, fun i hi hn => k.2 i hi fun a ha e => hn (e ▸ hp a ha), hx⟩

/-! ## changes -/
def chg (D : DiskS) : Int × DiskS := if D.down = true ∨ D.fuse = 0 then (2, { D with down := true }) else (0, { D with fuse := max (D.fuse - 1) (-1) })
theorem DiskIn.set {G : FF} {H H' : Heap} {b : Nat} {D : DiskS} {p1 p2 p3 c1 c2 c3 v1 v2 v3} (h : DiskIn G H b D p1 p2 p3 c1 c2 c3 v1 v2 v3) (w : WF G H) {f : Int} {d : Bool} (s : H'.size = H.size) (o : ∀ i, i ≠ b → H'[i]? = H[i]?)
    (hc : CellsAt H' b #[.slice p1 D.is.length c1, .slice p2 D.is.length c2, .slice p3 D.list.length c3, .int .i64 f, .bool d] T.disk_Disk) (hf : -1 ≤ f ∧ f ≤ 9223372036854775807) : DiskIn G H' b { D with fuse := f, down := d } p1 p2 p3 c1 c2 c3 v1 v2 v3 := by
  have x : Ext G.x H G.x H' := ⟨by omega, fun k _ hn => o k fun e => hn (e ▸ w.sub b h.wb), fun k hk => .inl hk⟩
  have ow : ∀ {e sz p n c vs}, Own (notW G b) e sz H p n c vs → Own (notW G b) e sz H' p n c vs := fun h => h.of_block fun a ha => o _ (notW_w (h.not a ha)).2
  exact { wb := h.wb, cells := hc, own1 := ow h.own1, own2 := ow h.own2, own3 := ow h.own3, row1 := h.row1.ext x, row2 := h.row2.ext x, row3 := h.row3.ext x, ap12 := h.ap12, ap13 := h.ap13, ap23 := h.ap23, len := h.len, most := h.most, many := h.many, fuse := hf, nums := h.nums }
theorem maxm1 {n : Int} : (if (-1 : Int) > n then -1 else n) = max n (-1) := by omega
theorem diskChange_spec {G : FF} {H : Heap} {b : Nat} {D : DiskS} {p1 p2 p3 c1 c2 c3 v1 v2 v3} (h : DiskIn G H b D p1 p2 p3 c1 c2 c3 v1 v2 v3) :
    HX Try.prog F.disk_Disk_change [.int .i64] #[.pointer (some ⟨b, 0, none⟩)] G H fun e G' H' => G = G' ∧ H'.size = H.size ∧ e = (chg D).1 ∧ DiskIn G H' b (chg D).2 p1 p2 p3 c1 c2 c3 v1 v2 v3 := fun w => by
  refine diskChange_vc _ G H _ ⟨D.down, by rw [h.cells.cell]; rfl, br_intro (fun hd => ?_) fun hd => ?_⟩ w
  · refine st_own h.wb h.cells (by simp) rfl fun H1 s1 o1 e1 => ⟨true, by rw [e1.cell]; rfl, br_true rfl ⟨rfl, s1, ?_⟩⟩
    unfold chg
    rw [if_pos (.inl hd)]
    exact ⟨rfl, h.set w s1 o1 e1 h.fuse⟩
  · refine ⟨D.fuse, by rw [h.cells.cell]; rfl, st_own h.wb h.cells (by simp) rfl fun H1 s1 o1 e1 => ⟨_, by rw [e1.cell]; rfl, br_beq (fun h0 => ⟨rfl, s1, ?_⟩) fun h0 => ?_⟩⟩
    · unfold chg
      rw [if_pos (.inr h0)]
      have e1' : (D.fuse == 0) = true := by simpa using h0
      rw [e1'] at e1
      exact ⟨rfl, h.set w s1 o1 e1 h.fuse⟩
    · have hb := h.fuse
      refine ⟨D.fuse, by rw [e1.cell]; rfl, st_own h.wb e1 (by simp) rfl fun H2 s2 o2 e2 => ⟨rfl, by omega, ?_⟩⟩
      unfold chg
      rw [if_neg (by simp [hd, h0])]
      rw [wrap_i64 (n := D.fuse - 1) (by omega) (by omega), maxm1] at e2
      have e1' : (D.fuse == 0) = false := by simpa using h0
      rw [e1'] at e2
      have := h.set (d := D.down) w (by omega : H2.size = H.size) (fun i hi => (o2 i hi).trans (o1 i hi)) (by rw [hd]; exact e2) (by omega)
      exact ⟨rfl, this⟩

theorem getD_app {α : Type} {L M : List α} {i : Nat} {d : α} (h : i < L.length) : (L ++ M).getD i d = L.getD i d := by
  rw [List.getD_eq_getElem?_getD, List.getD_eq_getElem?_getD, List.getElem?_append_left h]
theorem RowsB.set {N : Fp} {H : Heap} {vs : List Value} {L : List Bytes} (h : RowsB N H vs L) {k : Nat} {q : Option Addr} {mc : Nat} {xs : Bytes} (hq : Bs N H q 256 mc xs) : RowsB N H (vs.set k (.slice q 256 mc)) (L.set k xs) := by
  refine ⟨by simp [h.1], fun i hi => ?_⟩
  rw [List.length_set] at hi
  by_cases e : k = i
  · subst e
    refine ⟨q, mc, by rw [List.getElem?_set]; simp [h.1, hi], ?_⟩
    rw [List.getD_eq_getElem?_getD, List.getElem?_set]; simpa [hi] using hq
  · obtain ⟨q', mc', h1, h2⟩ := h.2 i hi
    refine ⟨q', mc', by rw [List.getElem?_set, if_neg e]; exact h1, ?_⟩
    rw [List.getD_eq_getElem?_getD, List.getElem?_set, if_neg e, ← List.getD_eq_getElem?_getD]; exact h2
theorem RowsW.app {N : Fp} {H : Heap} {vs : List Value} {L : List (Nat × Bytes)} (h : RowsW N H vs L) {k : Nat} {q : Option Addr} {mc : Nat} {xs : Bytes} (hq : Bs N H q 256 mc xs) : RowsW N H (vs ++ [.int .i64 (k : Nat), .slice q 256 mc]) (L ++ [(k, xs)]) := by
  have hl := h.1
  refine ⟨by simp; omega, fun i hi => ?_⟩
  simp only [List.length_append, List.length_cons, List.length_nil] at hi
  by_cases e : i < L.length
  · obtain ⟨q', mc', h1, h2, h3⟩ := h.2 i e
    refine ⟨q', mc', ?_, ?_, ?_⟩
    · rw [List.getElem?_append_left (by omega), getD_app e]; exact h1
    · rw [List.getElem?_append_left (by omega)]; exact h2
    · rw [getD_app e]; exact h3
  · have : i = L.length := by omega
    subst this
    refine ⟨q, mc, ?_, ?_, ?_⟩
    · rw [List.getElem?_append_right (by omega)]; simp [hl]
    · rw [List.getElem?_append_right (by omega)]; simp [hl]
    · simpa using hq
theorem out_own {G : FF} {b : Nat} {H H' : Heap} {p q : Option Addr} (k : Kept p H H') (ha : apartP p q) {e : TypeId} {sz n c : Nat} {vs : List Value} (h : Own (notW G b) e sz H q n c vs) : Own (notW G b) e sz H' q n c vs :=
  h.of_block fun a hq => k.2 _ (h.lt a hq) fun a' hp => ha a' a hp hq
theorem apartP.symm {p q : Option Addr} (h : apartP p q) : apartP q p := fun a a' ha ha' e => h a' a ha' ha e.symm
theorem DiskIn.put1 {G : FF} {H H' : Heap} {b : Nat} {D : DiskS} {p1 p2 p3 c1 c2 c3 v1 v2 v3} (h : DiskIn G H b D p1 p2 p3 c1 c2 c3 v1 v2 v3) (w : WF G H) {k : Nat} {q : Option Addr} {mc : Nat} {xs : Bytes} (hq : Bs G.x H q 256 mc xs)
    (kp : Kept p1 H H') (o : Own (notW G b) T.S_uint8 1 H' p1 D.is.length c1 (v1.set k (.slice q 256 mc))) : DiskIn G H' b { D with is := D.is.set k xs } p1 p2 p3 c1 c2 c3 (v1.set k (.slice q 256 mc)) v2 v3 := by
  have hx : ∀ a, p1 = some a → G.x a.block := fun a ha => w.sub _ (notW_w (h.own1.not a ha)).1
  have x : Ext G.x H G.x H' := rows_keep kp hx fun _ h => .inl h
  have hb : H'[b]? = H[b]? := kp.2 b h.cells.lt fun a ha => (notW_w (h.own1.not a ha)).2
  have hl : (D.is.set k xs).length = D.is.length := by simp
  exact { wb := h.wb, cells := by simp only [hl]; exact h.cells.of_block hb, own1 := by simp only [hl]; exact o, own2 := by simp only [hl]; exact out_own kp h.ap12 h.own2, own3 := out_own kp h.ap13 h.own3,
          row1 := (h.row1.ext x).set (hq.ext x), row2 := h.row2.ext x, row3 := h.row3.ext x, ap12 := h.ap12, ap13 := h.ap13, ap23 := h.ap23, len := by simp only [hl]; exact h.len, most := by simp only [hl]; exact h.most, many := h.many, fuse := h.fuse, nums := by simp only [hl]; exact h.nums }
theorem DiskIn.put2 {G : FF} {H H' : Heap} {b : Nat} {D : DiskS} {p1 p2 p3 c1 c2 c3 v1 v2 v3} (h : DiskIn G H b D p1 p2 p3 c1 c2 c3 v1 v2 v3) (w : WF G H) {k : Nat} {q : Option Addr} {mc : Nat} {xs : Bytes} (hq : Bs G.x H q 256 mc xs)
    (kp : Kept p2 H H') (o : Own (notW G b) T.S_uint8 1 H' p2 D.is.length c2 (v2.set k (.slice q 256 mc))) : DiskIn G H' b { D with kept := D.kept.set k xs } p1 p2 p3 c1 c2 c3 v1 (v2.set k (.slice q 256 mc)) v3 := by
  have hx : ∀ a, p2 = some a → G.x a.block := fun a ha => w.sub _ (notW_w (h.own2.not a ha)).1
  have x : Ext G.x H G.x H' := rows_keep kp hx fun _ h => .inl h
  have hb : H'[b]? = H[b]? := kp.2 b h.cells.lt fun a ha => (notW_w (h.own2.not a ha)).2
  exact { wb := h.wb, cells := h.cells.of_block hb, own1 := out_own kp h.ap12.symm h.own1, own2 := o, own3 := out_own kp h.ap23 h.own3,
          row1 := h.row1.ext x, row2 := (h.row2.ext x).set (hq.ext x), row3 := h.row3.ext x, ap12 := h.ap12, ap13 := h.ap13, ap23 := h.ap23, len := by simp [h.len], most := h.most, many := h.many, fuse := h.fuse, nums := h.nums }
theorem und_wrote : Try.prog.underlying T.S_disk_wrote = some (.slice T.disk_wrote) := by kernel_rfl
theorem info_wrote : ∃ i, Try.prog.info? T.disk_wrote = some i ∧ i.zero = some (.agg #[.int .i64 0, .slice none 0 0]) ∧ i.bytes = 32 ∧ i.size = 2 := ti_of (by kernel_rfl)
/-- what a Write does -/
def wrD (D : DiskS) (k : Int) (xs : Bytes) : Int × DiskS :=
  if ¬ (0 ≤ k ∧ k < D.is.length) ∨ xs.length ≠ 256 then (1, D) else if (chg D).1 ≠ 0 then chg D else (0, { (chg D).2 with is := D.is.set k.toNat xs, list := D.list ++ [(k.toNat, xs)] })
theorem chg_is (D : DiskS) : (chg D).2.is = D.is ∧ (chg D).2.list = D.list ∧ (chg D).2.kept = D.kept := by unfold chg; split <;> exact ⟨rfl, rfl, rfl⟩
theorem rowIs_new {H : Heap} {b : Nat} {cs : Array Value} {T : TypeId} {f : Nat × Nat} (h : H[b]? = some (.cells cs T f)) : rowIs H (some ⟨b, 0, none⟩) cs.toList :=
  .inr ⟨b, 0, rfl, fun i v hv => by rw [Nat.zero_add, hcell_cells h]; simpa using hv⟩
theorem diskWrite_spec {G : FF} {H : Heap} {b : Nat} {D : DiskS} (h : DiskAt G H b D) (hm : D.list.length < 2 ^ 39) {N : Fp} {p : Option Addr} {n c : Nat} {xs : Bytes} (hb : Bs G.x H p n c xs) (k : Int) :
    HX Try.prog F.disk_Disk_Write [.int .i64] #[.pointer (some ⟨b, 0, none⟩), .int .i64 k, .slice p n c] G H fun e G' H' => e = (wrD D k xs).1 ∧ DiskAt G' H' b (wrD D k xs).2 := fun w => by
  have hn := hb.len
  refine diskWrite_vc _ k p n c G H _ ((diskHas_spec h k).pure fun _ => ?_) w
  rintro _ _ _ _ ⟨rfl, rfl⟩
  refine br_not (br_dec (fun h1 => br_bne (fun h2 => ?_) fun h2 => ?_) fun h1 => ?_)
  · have : wrD D k xs = (1, D) := if_pos (.inr (by omega))
    rw [this]; exact ⟨rfl, h⟩
  · obtain ⟨p1, p2, p3, c1, c2, c3, v1, v2, v3, h⟩ := h
    have hw : wrD D k xs = if (chg D).1 ≠ 0 then chg D else (0, { (chg D).2 with is := D.is.set k.toNat xs, list := D.list ++ [(k.toNat, xs)] }) := if_neg (by omega)
    rw [hw]
    refine (diskChange_spec h).call fun _ => ?_
    rintro e _ H1 ⟨x1, w1⟩ ⟨rfl, s1, rfl, h1'⟩
    refine br_bne (fun h3 => ?_) fun h3 => ?_
    · rw [if_pos h3]; exact ⟨rfl, _, _, _, _, _, _, _, _, _, h1'⟩
    rw [if_neg (by simpa using h3)]
    obtain ⟨ei, el, ek⟩ := chg_is D
    have hb1 := hb.ext (x1.ext w)
    clear hw
    rw [← ei] at h1
    rw [← el] at hm
    rw [← ei, ← el]
    generalize (chg D).2 = D1 at h1 h1' hm ⊢
    refine ⟨_, _, _, by rw [h1'.cells.cell]; rfl, (cloneB_spec hb1).pure fun _ => ?_⟩
    rintro q m mc _ H2 g2 ⟨rfl, o2⟩
    have h2' := h1'.away (.grow g2)
    have w2 := g2.wf w1
    have hq : Bs G.x H2 q 256 mc xs := by have := o2.im w1; rwa [show xs.length = 256 by omega] at this
    rw [show xs.length = 256 by omega]
    refine ⟨⟨_, _, _, by rw [h2'.cells.cell]; rfl, rfl⟩, ⟨by omega, by omega⟩, stW (i := k.toNat * 1) h2'.own1 (by have := h2'.own1.1; omega) rfl fun H3 kp3 s3 o3 => ?_⟩
    rw [Nat.mul_one] at o3
    have h3' := h2'.put1 w2 hq kp3 o3
    have w3 : WF G H3 := ⟨fun k hk => by rw [s3]; exact w2.lt k hk, w2.sub⟩
    have hx1 : ∀ a, p1 = some a → G.x a.block := fun a ha => w2.sub _ (notW_w (h2'.own1.not a ha)).1
    have hq3 := hq.ext (rows_keep (G' := G) kp3 hx1 fun _ h => .inl h)
    have hkl : k.toNat < v1.length := by have := h2'.own1.1; omega
    refine ⟨_, _, _, by rw [h3'.cells.cell]; rfl, _, _, _, by rw [h3'.cells.cell]; rfl, ⟨by omega, by simp only [List.length_set]; omega⟩, ?_⟩
    refine h3'.own1.toRow.ld (i := k.toNat * 1) (v := .slice q 256 mc) (by rw [Nat.mul_one, List.getElem?_set]; simp [hkl]) fun bb oo _ _ hc => ⟨_, _, _, hc, new_im fun H4 g4 n4 s4 => ?_⟩
    have h4' := h3'.away (.grow g4)
    have w4 := g4.wf w3
    refine ⟨⟨_, _, _, by rw [h4'.cells.cell]; rfl, rfl⟩, ?_⟩
    obtain ⟨i, hi, hz, hib, his⟩ := info_wrote
    have hrow : rowIs H4 (some ⟨H3.size, 0, none⟩) [.int .i64 k, .slice q 256 mc] := rowIs_new n4
    refine appW (i := i) (xs := v3) (ys := [.int .i64 k, .slice q 256 mc]) (m := 1) und_wrote ⟨_, und_wrote⟩ hi hz (by omega) (by rw [his]; rfl) (by rw [his]; exact h4'.own3) h4'.wb hrow (by simp [his])
      (fun v hv => by simp at hv; rcases hv with rfl | rfl <;> rfl) (show D1.list.length + 1 ≤ 2 ^ 40 by omega) fun p' c' H5 o5 kp5 hp' => ?_
    rw [his] at o5
    have hx3 : ∀ a, p3 = some a → G.x a.block := fun a ha => w4.sub _ (notW_w (h4'.own3.not a ha)).1
    have x5 : Ext G.x H4 (G.upto H4 H5).x H5 := rows_keep kp5 hx3 fun k hk => hk.imp id fun e => e.1
    have hb5 : H5[b]? = H4[b]? := kp5.2 b h4'.cells.lt fun a ha => (notW_w (h4'.own3.not a ha)).2
    have up : ∀ {e sz q n c vs}, Own (notW G b) e sz H5 q n c vs → Own (notW (G.upto H4 H5) b) e sz H5 q n c vs := fun h => h.mono fun a _ hn hc => hc.elim (fun h1 => h1 (.inl (notW_w hn).1)) (notW_w hn).2
    have cb : CellsAt H5 b _ T.disk_Disk := h4'.cells.of_block hb5
    refine st_own (.inl h4'.wb) cb (by simp) rfl fun H6 s6 o6 e6 => ⟨rfl, p1, p2, p', c1, c2, c', v1.set k.toNat (.slice q 256 mc), v2, v3 ++ [.int .i64 k, .slice q 256 mc], ?_⟩
    have hbx : (G.upto H4 H5).x b := .inl (w4.sub b h4'.wb)
    have x6 : Ext (G.upto H4 H5).x H5 (G.upto H4 H5).x H6 := ⟨by omega, fun k _ hn => o6 k fun e => hn (e ▸ hbx), fun k hk => .inl hk⟩
    have ow6 : ∀ {e sz q n c vs}, Own (notW (G.upto H4 H5) b) e sz H5 q n c vs → Own (notW (G.upto H4 H5) b) e sz H6 q n c vs := fun h => h.of_block fun a ha => o6 _ (notW_w (h.not a ha)).2
    have hp3 : ∀ q, apartP q p3 → (∀ a, q = some a → a.block < H4.size) → apartP q p' := fun q ha hlt a a' hq hp => by
      rcases hp' with rfl | ⟨a2, rfl, h2⟩
      · exact ha a a' hq hp
      · cases hp; have := hlt a hq; omega
    have hql : (D1.list ++ [(k.toNat, xs)]).length = D1.list.length + 1 := by simp
    have hk0 : ((k.toNat : Nat) : Int) = k := by omega
    have r3 : RowsW G.x H4 (v3 ++ [.int .i64 k, .slice q 256 mc]) (D1.list ++ [(k.toNat, xs)]) := by
      have := h4'.row3.app (k := k.toNat) (hq3.grow g4)
      rwa [hk0] at this
    exact { wb := .inl h4'.wb, cells := by simp only [hql]; exact e6, own1 := ow6 (up (out_own kp5 h4'.ap13.symm h4'.own1)), own2 := ow6 (up (out_own kp5 h4'.ap23.symm h4'.own2)), own3 := by simp only [hql]; exact ow6 o5,
            row1 := (h4'.row1.ext x5).ext x6, row2 := (h4'.row2.ext x5).ext x6, row3 := (r3.ext x5).ext x6, ap12 := h4'.ap12, ap13 := hp3 _ h4'.ap13 h4'.own1.lt, ap23 := hp3 _ h4'.ap23 h4'.own2.lt,
            len := h4'.len, most := h4'.most, many := by simp only [hql]; omega, fuse := h4'.fuse, nums := fun i hi => by
              simp only [hql] at hi
              simp only [List.length_set]
              by_cases e : i < D1.list.length
              · rw [getD_app e]; have := h4'.nums i e; simpa using this
              · rw [show i = D1.list.length by omega]; simp; omega }
  · have : wrD D k xs = (1, D) := if_pos (.inl (by omega))
    rw [this]; exact ⟨rfl, h⟩

theorem und_bb : Try.prog.underlying T.S_S_uint8 = some (.slice T.S_uint8) := by kernel_rfl
theorem info_sl : ∃ i, Try.prog.info? T.S_uint8 = some i ∧ i.zero = some (.slice none 0 0) ∧ i.bytes = 24 ∧ i.size = 1 := ti_of (by kernel_rfl)
theorem stepX_kept {G : FF} {H H' : Heap} {p : Option Addr} {K : FF → Prop} (hp : ∀ a, p = some a → G.w a.block) (k : Kept p H H') (hk : K G) : stepX G H H' K := fun w =>
  ⟨G, ⟨k.1, fun i hi hn => k.2 i hi fun a ha e => hn (e ▸ hp a ha), fun _ h => .inl h, fun _ h => h, fun _ h => .inl h⟩, ⟨fun i hi => Nat.lt_of_lt_of_le (w.lt i hi) k.1, w.sub⟩, hk⟩
theorem cloneBB_spec {N : Fp} {p : Option Addr} {n c : Nat} {vs : List Value} {H : Heap} (hr : Row N H p vs) (hl : vs.length = n) (hf : ∀ v ∈ vs, flat v = true) (hn : n ≤ 2 ^ 39) :
    HP Try.prog F.slices_Clone_SSbyte_Sbyte [.sl] #[.slice p n c] H fun q m mc _ H' => m = n ∧ Own (Upto H) T.S_uint8 1 H' q m mc vs := by
  subst hl
  refine cloneBB_vc p _ c E H _ (br_intro (fun h => ?_) fun h => ?_)
  · have : vs = [] := by
      rcases hr with h1 | ⟨b, o, h1, _⟩
      · exact h1
      · rw [h1] at h; cases h
    subst this
    exact ⟨rfl, .nil _ _ _ _⟩
  · refine new_own fun H2 g2 n2 s2 => ?_
    obtain ⟨i, hi, hz, hib, his⟩ := info_sl
    refine appV_own (N := Upto H) (i := i) (xs := []) (ys := vs) (m := vs.length) und_bb ⟨_, und_bb⟩ hi hz (by omega) (by rw [his]; rfl) ?_ (hr.is_grow g2) (by simp [his]) hf (by omega) (fun k hk => by have : k < H.size := hk; omega) fun p' c' H5 o kp hp' => ⟨_, _, _, rfl, stepX_kept (fun a ha => by cases ha; exact FF.add_w _ _) kp ?_⟩
    · exact ⟨by simp, .inr ⟨H.size, _, rfl, Nat.lt_irrefl _, .mk n2, by omega, by simp, fun j v hj => by simp at hj⟩⟩
    · rw [his, Nat.zero_add, List.nil_append] at o
      refine ⟨Nat.zero_add _, ?_⟩
      rw [Nat.zero_add]; exact o
theorem Own.fresh {G : FF} {b sz n c : Nat} {e : TypeId} {H H' : Heap} {p : Option Addr} {vs : List Value} (o : Own (Upto H) e sz H' p n c vs) (hb : b < H.size) : Own (notW (G.upto H H') b) e sz H' p n c vs :=
  o.mono fun a ha hn hc => by
    have h1 : H.size ≤ a.block := Nat.not_lt.1 hn
    rcases hc with hc | hc
    · exact hc (.inr ⟨h1, o.lt a ha⟩)
    · omega
theorem RowsB.flat {N : Fp} {H : Heap} {vs : List Value} {L : List Bytes} (h : RowsB N H vs L) : ∀ v ∈ vs, flat v = true := fun v hv => by
  obtain ⟨i, hi, rfl⟩ := List.getElem_of_mem hv
  obtain ⟨q, mc, h1, _⟩ := h.2 i (by rw [← h.1]; exact hi)
  rw [List.getElem?_eq_getElem hi] at h1
  injection h1 with h1; rw [h1]; rfl
/-- what a Flush does -/
def flD (D : DiskS) : Int × DiskS := if (chg D).1 ≠ 0 then chg D else (0, { (chg D).2 with kept := D.is, list := [] })
theorem chg_e (D : DiskS) : (chg D).1 = 0 ∨ (chg D).1 = 2 := by unfold chg; split <;> simp
theorem diskFlush_spec {G : FF} {H : Heap} {b : Nat} {D : DiskS} (h : DiskAt G H b D) :
    HX Try.prog F.disk_Disk_Flush [.int .i64] #[.pointer (some ⟨b, 0, none⟩)] G H fun e G' H' => e = (flD D).1 ∧ DiskAt G' H' b (flD D).2 := fun w => by
  obtain ⟨p1, p2, p3, c1, c2, c3, v1, v2, v3, h⟩ := h
  refine diskFlush_vc _ G H _ (br_false rfl ((diskChange_spec h).call fun _ => ?_)) w
  rintro e _ H1 ⟨x1, w1⟩ ⟨rfl, s1, rfl, h1⟩
  refine br_beq (fun h3 => ?_) fun h3 => ?_
  · have hf : flD D = (0, { (chg D).2 with kept := D.is, list := [] }) := if_neg (by simpa using h3)
    rw [hf, h3]
    obtain ⟨ei, el, ek⟩ := chg_is D
    clear hf
    rw [← ei]
    generalize (chg D).2 = D1 at h1 ⊢
    have hm := h1.most
    refine ⟨_, _, _, by rw [h1.cells.cell]; rfl, (cloneBB_spec h1.own1.toRow (by have := h1.own1.1; omega) h1.row1.flat (by omega)).own fun _ => ?_⟩
    rintro q m mc _ H2 g2 ⟨rfl, o2⟩
    have h2 := h1.away (.upto g2)
    have w2 : WF (G.upto H1 H2) H2 := ⟨fun k hk => hk.elim (fun h => Nat.lt_of_lt_of_le (w1.lt k h) g2.1) fun h => h.2, fun k hk => hk.imp (w1.sub k) id⟩
    have hbl : b < H1.size := w1.lt b (w1.sub b h1.wb)
    have oq := Own.fresh (G := G) (b := b) o2 hbl
    refine st_own h2.wb h2.cells (by simp) rfl fun H3 s3 o3 e3 => st_own h2.wb e3 (by simp) rfl fun H4 s4 o4 e4 => ⟨rfl, p1, q, none, c1, mc, 0, v1, v1, [], ?_⟩
    have o34 : ∀ i, i ≠ b → H4[i]? = H2[i]? := fun i hi => (o4 i hi).trans (o3 i hi)
    have hbx : (G.upto H1 H2).x b := w2.sub b h2.wb
    have x : Ext (G.upto H1 H2).x H2 (G.upto H1 H2).x H4 := ⟨by omega, fun k _ hn => o34 k fun e => hn (e ▸ hbx), fun k hk => .inl hk⟩
    have ow : ∀ {e sz p n c vs}, Own (notW (G.upto H1 H2) b) e sz H2 p n c vs → Own (notW (G.upto H1 H2) b) e sz H4 p n c vs := fun h => h.of_block fun a ha => o34 _ (notW_w (h.not a ha)).2
    exact { wb := h2.wb, cells := e4, own1 := ow h2.own1, own2 := ow oq, own3 := .nil _ _ _ _, row1 := h2.row1.ext x, row2 := h2.row1.ext x, row3 := ⟨rfl, fun i hi => absurd hi (by simp)⟩,
            ap12 := fun a a' ha ha' e => by
              have k1 := h1.own1.lt a ha
              have k2 : ¬ a'.block < H1.size := o2.not a' ha'
              omega
            ap13 := fun a a' _ ha' => (by cases ha'), ap23 := fun a a' _ ha' => (by cases ha'), len := rfl, most := h1.most, many := by simp, fuse := h1.fuse, nums := fun i hi => absurd hi (by simp) }
  · have hf : flD D = chg D := if_pos h3
    rw [hf]
    exact ⟨rfl, _, _, _, _, _, _, _, _, _, h1⟩

/-! ## Damage, of a disk without Writes that were not flushed -/
theorem DiskIn.same {G : FF} {H H' : Heap} {b : Nat} {D : DiskS} {p1 p2 p3 c1 c2 c3 v1 v2 v3} (h : DiskIn G H b D p1 p2 p3 c1 c2 c3 v1 v2 v3) (w : WF G H) (s : H'.size = H.size) (o : ∀ i, i ≠ b → H'[i]? = H[i]?)
    (hc : CellsAt H' b #[.slice p1 D.is.length c1, .slice p2 D.is.length c2, .slice p3 D.list.length c3, .int .i64 D.fuse, .bool D.down] T.disk_Disk) : DiskIn G H' b D p1 p2 p3 c1 c2 c3 v1 v2 v3 := h.set w s o hc h.fuse
/-! ## a new disk: two chains of operations, in whatever order -/
inductive Sg where
  | s0 | s1 (p : Option Addr) (n c : Nat) | s2 (r : Nat) | s3 (p : Option Addr) (n c : Nat)
def chS (p1 : Option Addr) (n1 c1 : Nat) (s : Sg) (G : FF) (H : Heap) (next : Sg → FF → Heap → Prop) : Prop := match s with
  | .s0 => msV Try.prog T.S_uint8 (.int .i64 256) (.int .i64 256) H fun v H' => ∃ p n c, v = Value.slice p n c ∧ stepX G H H' fun G' => next (.s1 p n c) G' H'
  | .s1 p n c => newK (Obj.cells #[.slice p n c] T.S_uint8) H fun r H' => stepX G H H' fun G' => next (.s2 r) G' H'
  | .s2 r => appV Try.prog #[T.S_S_uint8, T.S_S_uint8] T.S_S_uint8 #[.slice p1 n1 c1, .slice (some ⟨r, 0, none⟩) 1 1] H fun v H' => ∃ p n c, v = Value.slice p n c ∧ stepX G H H' fun G' => next (.s3 p n c) G' H'
  | .s3 _ _ _ => True
def rerS (b1 o : Nat) (p1 : Option Addr) (n1 c1 : Nat) (s : Sg) (H : Heap) (X : Prop) : Prop := match s with
  | .s3 _ _ _ => X
  | _ => (ldSl ⟨b1, o, none⟩ H fun p n c => sameV (.slice p1 n1 c1) (.slice p n c)) ∧ X
section
variable (b1 : Nat) (p1 : Option Addr) (n1 c1 : Nat) (p2 : Option Addr) (n2 c2 : Nat) (fin : Option Addr → Nat → Nat → Option Addr → Nat → Nat → FF → Heap → Prop)
def demN : Nat → Sg → Sg → FF → Heap → Prop
  | 0, .s3 p n c, .s3 p' n' c', G, H => fin p n c p' n' c' G H
  | f + 1, .s3 p n c, s, G, H => chS p2 n2 c2 s G H fun s' G' H' => rerS b1 1 p2 n2 c2 s' H' (demN f (.s3 p n c) s' G' H')
  | f + 1, s, .s3 p n c, G, H => chS p1 n1 c1 s G H fun s' G' H' => rerS b1 0 p1 n1 c1 s' H' (demN f s' (.s3 p n c) G' H')
  | f + 1, s, .s2 r, G, H => chS p1 n1 c1 s G H fun s' G' H' => rerS b1 1 p2 n2 c2 (.s2 r) H' (rerS b1 0 p1 n1 c1 s' H' (demN f s' (.s2 r) G' H'))
  | f + 1, s, t, G, H => (chS p1 n1 c1 s G H fun s' G' H' => rerS b1 1 p2 n2 c2 t H' (rerS b1 0 p1 n1 c1 s' H' (demN f s' t G' H'))) ∧
      chS p2 n2 c2 t G H fun t' G' H' => rerS b1 1 p2 n2 c2 t' H' (rerS b1 0 p1 n1 c1 s H' (demN f s t' G' H'))
  | _, _, _, _, _ => False
end
def zs : Bytes := List.replicate 256 0
def cur (p : Option Addr) : Sg → Option Addr
  | .s3 p' _ _ => p'
  | _ => p
def Ch (G : FF) (H : Heap) (b n : Nat) (p : Option Addr) (c : Nat) (v : List Value) : Sg → Prop
  | .s0 => Own (notW G b) T.S_uint8 1 H p n c v
  | .s1 q m k => m = 256 ∧ Bs G.x H q 256 k zs ∧ Own (notW G b) T.S_uint8 1 H p n c v
  | .s2 r => ∃ q k, Bs G.x H q 256 k zs ∧ H[r]? = some (.cells #[.slice q 256 k] T.S_uint8 (0, 0)) ∧ ¬ G.x r ∧ Own (notW G b) T.S_uint8 1 H p n c v
  | .s3 p' m c' => m = n + 1 ∧ ∃ q k, Bs G.x H q 256 k zs ∧ Own (notW G b) T.S_uint8 1 H p' (n + 1) c' (v ++ [.slice q 256 k])
/-- a step of the other chain -/
structure Lf (q : Option Addr) (G : FF) (H : Heap) (G' : FF) (H' : Heap) : Prop where
  kept : Kept q H H'
  qw : ∀ a, q = some a → G.w a.block
  w : ∀ k, G.w k → G'.w k
  x : ∀ k, G'.x k → G.x k ∨ H.size ≤ k
  wf : WF G' H'
theorem Lf.ext {q : Option Addr} {G G' : FF} {H H' : Heap} (l : Lf q G H G' H') (w : WF G H) : Ext G.x H G'.x H' := rows_keep l.kept (fun a ha => w.sub _ (l.qw a ha)) l.x
theorem Lf.own {q : Option Addr} {G G' : FF} {H H' : Heap} (l : Lf q G H G' H') {b sz n c : Nat} {e : TypeId} {p : Option Addr} {v : List Value} (h : Own (notW G b) e sz H p n c v) (ap : apartP q p) : Own (notW G' b) e sz H' p n c v :=
  (out_own l.kept ap h).mono fun a _ hn hc => hc.elim (fun h1 => h1 (l.w _ (notW_w hn).1)) (notW_w hn).2
theorem Ch.lift {q : Option Addr} {G G' : FF} {H H' : Heap} (l : Lf q G H G' H') (w : WF G H) {b n : Nat} {p : Option Addr} {c : Nat} {v : List Value} {s : Sg} (ap : apartP q (cur p s)) (h : Ch G H b n p c v s) : Ch G' H' b n p c v s := by
  cases s with
  | s0 => exact l.own h ap
  | s1 q' m k => exact ⟨h.1, h.2.1.ext (l.ext w), l.own h.2.2 ap⟩
  | s2 r =>
    obtain ⟨q', k, h1, h2, h3, h4⟩ := h
    refine ⟨q', k, h1.ext (l.ext w), ?_, fun hc => (l.x r hc).elim h3 fun h => ?_, l.own h4 ap⟩
    · rw [l.kept.2 r (hlt_of_block h2) fun a ha e => h3 (e ▸ w.sub _ (l.qw a ha))]; exact h2
    · have := hlt_of_block h2; omega
  | s3 p' m c' =>
    obtain ⟨h0, q', k, h1, h2⟩ := h
    exact ⟨h0, q', k, h1.ext (l.ext w), l.own h2 ap⟩
theorem Ch.own {G : FF} {H : Heap} {b n : Nat} {p : Option Addr} {c : Nat} {v : List Value} {s : Sg} (h : Ch G H b n p c v s) : ∃ m c' v', Own (notW G b) T.S_uint8 1 H (cur p s) m c' v' := by
  cases s with
  | s0 => exact ⟨_, _, _, h⟩
  | s1 q' m k => exact ⟨_, _, _, h.2.2⟩
  | s2 r => obtain ⟨q', k, h1, h2, h3, h4⟩ := h; exact ⟨_, _, _, h4⟩
  | s3 p' m c' => obtain ⟨h0, q', k, h1, h2⟩ := h; exact ⟨_, _, _, h2⟩
def left : Sg → Nat
  | .s0 => 3
  | .s1 _ _ _ => 2
  | .s2 _ => 1
  | .s3 _ _ _ => 0
/-- one step of a chain -/
theorem ch_step {G : FF} {H : Heap} {b n : Nat} {p : Option Addr} {c : Nat} {v : List Value} {s : Sg} (w : WF G H) (hb : G.w b) (hn : n ≤ 2000) (h : Ch G H b n p c v s) (h0 : 0 < left s) {next : Sg → FF → Heap → Prop}
    (hk : ∀ s' G' H', Lf (cur p s) G H G' H' → Ch G' H' b n p c v s' → left s' + 1 = left s → (cur p s' = cur p s ∨ ∃ a, cur p s' = some a ∧ H.size ≤ a.block) → next s' G' H') : chS p n c s G H next := by
  have hpw : ∀ {p' e sz m c' v'}, Own (notW G b) e sz H p' m c' v' → ∀ a, p' = some a → G.w a.block := fun o a ha => (notW_w (o.not a ha)).1
  have lg : ∀ {H' : Heap}, Grow H H' → (∀ a, cur p s = some a → G.w a.block) → Lf (cur p s) G H G H' := fun g hq => ⟨⟨g.1, fun k hk _ => g.2 k hk⟩, hq, fun _ h => h, fun _ h => .inl h, g.wf w⟩
  cases s with
  | s0 =>
    have h : Own (notW G b) T.S_uint8 1 H p n c v := h
    refine mkB (n := 256) (by omega) fun H' o g s => ⟨_, _, _, rfl, stepX_grow g (hk (.s1 _ 256 256) G H' (lg g (hpw h)) ⟨rfl, o.im w, Own.away h (.grow g)⟩ rfl (.inl rfl))⟩
  | s1 q m k =>
    obtain ⟨rfl, h1, h2⟩ := h
    refine new_im fun H' g nn s => hk (.s2 H.size) G H' (lg g (hpw h2)) ⟨q, k, h1.grow g, nn, fun hc => ?_, Own.away h2 (.grow g)⟩ rfl (.inl rfl)
    have := w.lt _ hc; omega
  | s2 r =>
    obtain ⟨q, k, h1, h2, h3, h4⟩ := h
    obtain ⟨i, hi, hz, hib, his⟩ := info_sl
    refine appW (i := i) (xs := v) (ys := [.slice q 256 k]) (m := 1) und_bb ⟨_, und_bb⟩ hi hz (by omega) (by rw [his]; rfl) (by rw [his]; exact h4) hb (rowIs_new h2) (by simp [his]) (fun v hv => by simp at hv; subst hv; rfl) (by omega) fun p' c' H' o kp hp' => ?_
    rw [his] at o
    have hq := hpw h4
    have l : Lf p G H (G.upto H H') H' := ⟨kp, hq, fun _ h => .inl h, fun k hk => hk.imp id fun e => e.1, ⟨fun k hk => hk.elim (fun h => Nat.lt_of_lt_of_le (w.lt k h) kp.1) fun h => h.2, fun k hk => hk.imp (w.sub k) id⟩⟩
    exact hk (.s3 p' (n + 1) c') _ H' l ⟨rfl, q, k, h1.ext (l.ext w), o⟩ rfl hp'
  | s3 p' m c' => simp [left] at h0
structure NF (G : FF) (H : Heap) (b n : Nat) (p1 : Option Addr) (c1 : Nat) (v1 : List Value) (p2 : Option Addr) (c2 : Nat) (v2 : List Value) (f : Int) (d : Bool) (L M : List Bytes) (s t : Sg) : Prop where
  wf : WF G H
  wb : G.w b
  cells : CellsAt H b #[.slice p1 n c1, .slice p2 n c2, .slice none 0 0, .int .i64 f, .bool d] T.disk_Disk
  a : Ch G H b n p1 c1 v1 s
  b : Ch G H b n p2 c2 v2 t
  r1 : RowsB G.x H v1 L
  r2 : RowsB G.x H v2 M
  ap : apartP (cur p1 s) (cur p2 t)
theorem cells_lift {q : Option Addr} {G G' : FF} {H H' : Heap} (l : Lf q G H G' H') {b : Nat} {cs : Array Value} {T : TypeId} (h : CellsAt H b cs T) (hq : ∀ a, q = some a → a.block ≠ b) : CellsAt H' b cs T := h.of_block (l.kept.2 b h.lt hq)
theorem ap_new {q q' r : Option Addr} {H : Heap} (h : apartP q r) (hr : ∀ a, r = some a → a.block < H.size) (hq : q' = q ∨ ∃ a, q' = some a ∧ H.size ≤ a.block) : apartP q' r := fun a a' ha ha' => by
  rcases hq with rfl | ⟨a2, rfl, h2⟩
  · exact h a a' ha ha'
  · cases ha; have := hr a' ha'; omega
theorem demN_ok {b n : Nat} {p1 : Option Addr} {c1 : Nat} {v1 : List Value} {p2 : Option Addr} {c2 : Nat} {v2 : List Value} {fu : Int} {d : Bool} {L M : List Bytes} (hn : n ≤ 2000)
    {fin : Option Addr → Nat → Nat → Option Addr → Nat → Nat → FF → Heap → Prop} (hf : ∀ p m c p' m' c' G H, NF G H b n p1 c1 v1 p2 c2 v2 fu d L M (.s3 p m c) (.s3 p' m' c') → fin p m c p' m' c' G H) :
    ∀ (f : Nat) (s t : Sg) (G : FF) (H : Heap), left s + left t = f → NF G H b n p1 c1 v1 p2 c2 v2 fu d L M s t → demN b p1 n c1 p2 n c2 fin f s t G H := by
  intro f
  induction f with
  | zero =>
    intro s t G H hl h
    cases s <;> cases t <;> simp only [left] at hl <;> first | omega | exact hf _ _ _ _ _ _ _ _ h
  | succ f ih =>
    intro s t G H hl h
    -- a step of the first chain, and of the second one
    have stepA : 0 < left s → ∀ {next : Sg → FF → Heap → Prop}, (∀ s' G' H', left s' + 1 = left s → NF G' H' b n p1 c1 v1 p2 c2 v2 fu d L M s' t → next s' G' H') → chS p1 n c1 s G H next := fun h0 next hk =>
      ch_step h.wf h.wb hn h.a h0 fun s' G' H' l hc hl' hcur => by
        obtain ⟨m, c', v', o⟩ := h.a.own
        obtain ⟨m2, c2', v2', o2⟩ := h.b.own
        exact hk s' G' H' hl' ⟨l.wf, l.w b h.wb, cells_lift l h.cells fun a ha => (notW_w (o.not a ha)).2, hc, h.b.lift l h.wf h.ap, h.r1.ext (l.ext h.wf), h.r2.ext (l.ext h.wf), ap_new h.ap o2.lt hcur⟩
    have stepB : 0 < left t → ∀ {next : Sg → FF → Heap → Prop}, (∀ t' G' H', left t' + 1 = left t → NF G' H' b n p1 c1 v1 p2 c2 v2 fu d L M s t' → next t' G' H') → chS p2 n c2 t G H next := fun h0 next hk =>
      ch_step h.wf h.wb hn h.b h0 fun t' G' H' l hc hl' hcur => by
        obtain ⟨m, c', v', o⟩ := h.a.own
        obtain ⟨m2, c2', v2', o2⟩ := h.b.own
        exact hk t' G' H' hl' ⟨l.wf, l.w b h.wb, cells_lift l h.cells fun a ha => (notW_w (o2.not a ha)).2, h.a.lift l h.wf h.ap.symm, hc, h.r1.ext (l.ext h.wf), h.r2.ext (l.ext h.wf), (ap_new h.ap.symm o.lt hcur).symm⟩
    have rA : ∀ {s' t' : Sg} {G' : FF} {H' : Heap} {X : Prop}, NF G' H' b n p1 c1 v1 p2 c2 v2 fu d L M s' t' → X → rerS b 0 p1 n c1 s' H' X := fun {s' _ _ _ _} h' hx => by
      cases s' <;> first | exact hx | exact ⟨⟨_, _, _, by rw [h'.cells.cell]; rfl, rfl⟩, hx⟩
    have rB : ∀ {s' t' : Sg} {G' : FF} {H' : Heap} {X : Prop}, NF G' H' b n p1 c1 v1 p2 c2 v2 fu d L M s' t' → X → rerS b 1 p2 n c2 t' H' X := fun {_ t' _ _ _} h' hx => by
      cases t' <;> first | exact hx | exact ⟨⟨_, _, _, by rw [h'.cells.cell]; rfl, rfl⟩, hx⟩
    have nA : ∀ s' G' H', left s' + 1 = left s → NF G' H' b n p1 c1 v1 p2 c2 v2 fu d L M s' t → demN b p1 n c1 p2 n c2 fin f s' t G' H' := fun s' G' H' e h' => ih s' t G' H' (by omega) h'
    have nB : ∀ t' G' H', left t' + 1 = left t → NF G' H' b n p1 c1 v1 p2 c2 v2 fu d L M s t' → demN b p1 n c1 p2 n c2 fin f s t' G' H' := fun t' G' H' e h' => ih s t' G' H' (by omega) h'
    cases t with
    | s3 p m c =>
      cases s with
      | s3 p' m' c' => simp [left] at hl
      | s0 => exact stepA (by simp [left]) fun s' G' H' e h' => rA h' (nA s' G' H' e h')
      | s1 p' m' c' => exact stepA (by simp [left]) fun s' G' H' e h' => rA h' (nA s' G' H' e h')
      | s2 r => exact stepA (by simp [left]) fun s' G' H' e h' => rA h' (nA s' G' H' e h')
    | s2 r =>
      cases s with
      | s3 p' m' c' => exact stepB (by simp [left]) fun t' G' H' e h' => rB h' (nB t' G' H' e h')
      | s0 => exact stepA (by simp [left]) fun s' G' H' e h' => rB h' (rA h' (nA s' G' H' e h'))
      | s1 p' m' c' => exact stepA (by simp [left]) fun s' G' H' e h' => rB h' (rA h' (nA s' G' H' e h'))
      | s2 r' => exact stepA (by simp [left]) fun s' G' H' e h' => rB h' (rA h' (nA s' G' H' e h'))
    | s0 =>
      cases s with
      | s3 p' m' c' => exact stepB (by simp [left]) fun t' G' H' e h' => rB h' (nB t' G' H' e h')
      | s0 => exact ⟨stepA (by simp [left]) fun s' G' H' e h' => rB h' (rA h' (nA s' G' H' e h')), stepB (by simp [left]) fun t' G' H' e h' => rB h' (rA h' (nB t' G' H' e h'))⟩
      | s1 p' m' c' => exact ⟨stepA (by simp [left]) fun s' G' H' e h' => rB h' (rA h' (nA s' G' H' e h')), stepB (by simp [left]) fun t' G' H' e h' => rB h' (rA h' (nB t' G' H' e h'))⟩
      | s2 r' => exact ⟨stepA (by simp [left]) fun s' G' H' e h' => rB h' (rA h' (nA s' G' H' e h')), stepB (by simp [left]) fun t' G' H' e h' => rB h' (rA h' (nB t' G' H' e h'))⟩
    | s1 p m c =>
      cases s with
      | s3 p' m' c' => exact stepB (by simp [left]) fun t' G' H' e h' => rB h' (nB t' G' H' e h')
      | s0 => exact ⟨stepA (by simp [left]) fun s' G' H' e h' => rB h' (rA h' (nA s' G' H' e h')), stepB (by simp [left]) fun t' G' H' e h' => rB h' (rA h' (nB t' G' H' e h'))⟩
      | s1 p' m' c' => exact ⟨stepA (by simp [left]) fun s' G' H' e h' => rB h' (rA h' (nA s' G' H' e h')), stepB (by simp [left]) fun t' G' H' e h' => rB h' (rA h' (nB t' G' H' e h'))⟩
      | s2 r' => exact ⟨stepA (by simp [left]) fun s' G' H' e h' => rB h' (rA h' (nA s' G' H' e h')), stepB (by simp [left]) fun t' G' H' e h' => rB h' (rA h' (nB t' G' H' e h'))⟩
def newD (n : Nat) : DiskS := ⟨List.replicate n zs, List.replicate n zs, [], -1, false⟩
def newN (n : Int) : Int := if 2000 < (if 0 > n then 0 else n) then 2000 else if 0 > n then 0 else n
theorem newN_le (n : Int) : 0 ≤ newN n ∧ newN n ≤ 2000 := by unfold newN; omega
theorem RowsB.app {N : Fp} {H : Heap} {vs : List Value} {L : List Bytes} (h : RowsB N H vs L) {q : Option Addr} {mc : Nat} {xs : Bytes} (hq : Bs N H q 256 mc xs) : RowsB N H (vs ++ [.slice q 256 mc]) (L ++ [xs]) := by
  have hl := h.1
  refine ⟨by simp; omega, fun i hi => ?_⟩
  simp only [List.length_append, List.length_cons, List.length_nil] at hi
  by_cases e : i < L.length
  · obtain ⟨q', mc', h1, h2⟩ := h.2 i e
    exact ⟨q', mc', by rw [List.getElem?_append_left (by omega)]; exact h1, by rw [getD_app e]; exact h2⟩
  · have : i = L.length := by omega
    subst this
    exact ⟨q, mc, by rw [List.getElem?_append_right (by omega)]; simp [hl], by simpa using hq⟩
theorem diskNew_spec (n : Int) (G : FF) (H : Heap) : HX Try.prog F.disk_New [.ptr] #[.int .i64 n] G H fun p G' H' => ∃ b, p = some ⟨b, 0, none⟩ ∧ H.size ≤ b ∧ DiskAt G' H' b (newD (newN n).toNat) := fun w => by
  refine diskNew_vc n G H _ (new_own fun H2 g2 n2 s2 => ?_) w
  obtain ⟨k0, k1⟩ := newN_le n
  have w2 : WF (G.add H.size) H2 := ⟨fun k hk => hk.elim (fun h => Nat.lt_of_lt_of_le (w.lt k h) g2.1) fun e => by omega, fun k hk => hk.imp (w.sub k) id⟩
  refine ⟨fun m i G' H' => 0 ≤ i ∧ i ≤ newN n ∧ m = (newN n - i).toNat ∧ WF G' H' ∧ ∃ p1 p2 c1 c2 v1 v2, DiskIn G' H' H.size (newD i.toNat) p1 p2 none c1 c2 0 v1 v2 [], ⟨_, by omega, k0, rfl, w2, none, none, 0, 0, [], [], ?_⟩, ?_⟩
  · have e0 : newD (Int.toNat 0) = ⟨[], [], [], -1, false⟩ := rfl
    rw [e0]
    exact { wb := FF.add_w _ _, cells := .mk n2, own1 := .nil _ _ _ _, own2 := .nil _ _ _ _, own3 := .nil _ _ _ _, row1 := ⟨rfl, fun i hi => absurd hi (by simp)⟩, row2 := ⟨rfl, fun i hi => absurd hi (by simp)⟩, row3 := ⟨rfl, fun i hi => absurd hi (by simp)⟩,
            ap12 := fun a a' ha => (by cases ha), ap13 := fun a a' ha => (by cases ha), ap23 := fun a a' ha => (by cases ha), len := rfl, most := by simp, many := by simp, fuse := ⟨by decide, by decide⟩, nums := fun i hi => absurd hi (by simp) }
  rintro _ G7 H8 _ i m ⟨i0, i1, rfl, w7, p1, p2, c1, c2, v1, v2, h⟩
  refine br_dec (fun hi => ?_) fun hi => ?_
  · have hi : i < newN n := hi
    have e1 : (newD i.toNat).is.length = i.toNat := by simp [newD]
    have hc := h.cells
    rw [e1] at hc
    have o1 := h.own1
    have o2 := h.own2
    rw [e1] at o1 o2
    refine ⟨_, _, _, by rw [hc.cell]; rfl, _, _, _, by rw [hc.cell]; rfl, ?_⟩
    have key := demN_ok (b := H.size) (n := i.toNat) (p1 := p1) (c1 := c1) (v1 := v1) (p2 := p2) (c2 := c2) (v2 := v2) (fu := -1) (d := false) (L := (newD i.toNat).is) (M := (newD i.toNat).kept) (by omega)
      (fin := fun p k1 c p' k2 c' G H' => stV ⟨H.size, 0, none⟩ (.slice p k1 c) H' fun H68 => stepX G H' H68 fun G69 => stV ⟨H.size, 1, none⟩ (.slice p' k2 c') H68 fun H70 => stepX G69 H68 H70 fun G71 =>
        ∃ m', ltK m' (newN n - i).toNat ∧ (0 ≤ IntKind.wrap .i64 (i + 1) ∧ IntKind.wrap .i64 (i + 1) ≤ newN n ∧ m' = (newN n - IntKind.wrap .i64 (i + 1)).toNat ∧ WF G71 H70 ∧ ∃ p1 p2 c1 c2 v1 v2, DiskIn G71 H70 H.size (newD (IntKind.wrap .i64 (i + 1)).toNat) p1 p2 none c1 c2 0 v1 v2 []))
      (fun p m c p' m' c' G H' hN => ?_) 6 .s0 .s0 G7 H8 rfl ⟨w7, h.wb, hc, o1, o2, h.row1, h.row2, h.ap12⟩
    · exact cast (by kernel_rfl) key
    have hw : IntKind.wrap .i64 (i + 1) = i + 1 := wrap_i64 (by omega) (by omega)
    obtain ⟨rfl, q, k, hq, oa⟩ := hN.a
    obtain ⟨rfl, q', k', hq', ob⟩ := hN.b
    refine st_own hN.wb hN.cells (by simp) rfl fun H3 s3 o3 e3 => st_own hN.wb e3 (by simp) rfl fun H4 s4 o4 e4 => ⟨_, ?_, by rw [hw]; omega, by rw [hw]; omega, rfl, ⟨fun k hk => by rw [s4, s3]; exact hN.wf.lt k hk, hN.wf.sub⟩, p, p', c, c', v1 ++ [.slice q 256 k], v2 ++ [.slice q' 256 k'], ?_⟩
    · rw [hw]; simp only [ltK]; omega
    have o34 : ∀ i, i ≠ H.size → H4[i]? = H'[i]? := fun i hi => (o4 i hi).trans (o3 i hi)
    have hbx : G.x H.size := hN.wf.sub _ hN.wb
    have x : Ext G.x H' G.x H4 := ⟨by omega, fun k _ hn => o34 k fun e => hn (e ▸ hbx), fun k hk => .inl hk⟩
    have ow : ∀ {e sz p n c vs}, Own (notW G H.size) e sz H' p n c vs → Own (notW G H.size) e sz H4 p n c vs := fun h => h.of_block fun a ha => o34 _ (notW_w (h.not a ha)).2
    have en : newD (IntKind.wrap .i64 (i + 1)).toNat = ⟨(newD i.toNat).is ++ [zs], (newD i.toNat).kept ++ [zs], [], -1, false⟩ := by
      rw [hw, show (i + 1).toNat = i.toNat + 1 by omega]
      simp [newD, List.replicate_succ']
    have el : ((newD i.toNat).is ++ [zs]).length = i.toNat + 1 := by simp [newD]
    have ek : ((newD i.toNat).kept ++ [zs]).length = i.toNat + 1 := by simp [newD]
    rw [en]
    exact { wb := hN.wb, cells := by simp only [el]; exact e4, own1 := by simp only [el]; exact ow oa, own2 := by simp only [el]; exact ow ob, own3 := .nil _ _ _ _, row1 := (hN.r1.app hq).ext x, row2 := (hN.r2.app hq').ext x, row3 := ⟨rfl, fun i hi => absurd hi (by simp)⟩,
            ap12 := hN.ap, ap13 := fun a a' _ ha => (by cases ha), ap23 := fun a a' _ ha => (by cases ha), len := by simp only [el, ek], most := by simp only [el]; omega, many := by simp, fuse := ⟨by show (-1 : Int) ≤ -1; omega, by show (-1 : Int) ≤ 9223372036854775807; omega⟩, nums := fun i hi => absurd hi (by simp) }
  · have hi : ¬ i < newN n := hi
    have : i = newN n := by omega
    subst this
    exact ⟨H.size, rfl, Nat.le_refl _, _, _, _, _, _, _, _, _, _, h⟩
end Go.Proofs.Ash
