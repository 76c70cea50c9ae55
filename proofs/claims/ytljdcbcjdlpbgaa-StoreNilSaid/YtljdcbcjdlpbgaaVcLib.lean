/-
  Small lemmas for use with the demands.
-/
import Derived.Test.YtljdcbcjdlpbgaaVcProg
import Derived.Below
import Derived.IntWalk
set_option linter.unusedVariables false
set_option linter.unusedSimpArgs false
namespace Go.Vc
open Go.RowKit (Below)

/-! ## for use -/
theorem br_intro {b : Bool} {x y : Prop} (h1 : b = true → x) (h2 : b = false → y) : br b x y := by
  cases b
  · exact h2 rfl
  · exact h1 rfl
theorem br_true {b : Bool} {x y : Prop} (h : b = true) (hx : x) : br b x y := by subst h; exact hx
theorem br_false {b : Bool} {x y : Prop} (h : b = false) (hy : y) : br b x y := by subst h; exact hy
theorem br_dec {p : Prop} [Decidable p] {x y : Prop} (h1 : p → x) (h2 : ¬ p → y) : br (decide p) x y :=
  br_intro (fun h => h1 (of_decide_eq_true h)) (fun h => h2 (of_decide_eq_false h))
theorem br_not {b : Bool} {x y : Prop} (h : br b y x) : br (!b) x y := by cases b <;> exact h
theorem br_pos {p : Prop} [Decidable p] {x y : Prop} (h : p) (hx : x) : br (decide p) x y := br_true (decide_eq_true h) hx
theorem br_neg {p : Prop} [Decidable p] {x y : Prop} (h : ¬ p) (hy : y) : br (decide p) x y := br_false (decide_eq_false h) hy

theorem br_beq {a b : Int} {x y : Prop} (h1 : a = b → x) (h2 : a ≠ b → y) : br (a == b) x y :=
  br_intro (fun h => h1 (by simpa using h)) (fun h => h2 (by simpa using h))
theorem br_bne {a b : Int} {x y : Prop} (h1 : a ≠ b → x) (h2 : a = b → y) : br (a != b) x y :=
  br_intro (fun h => h1 (by simpa using h)) (fun h => h2 (by simpa using h))
theorem callQ_of {P : Program} {f : FuncId} {args : Array Value} {H : Heap} {V : Value} {K : Value → Prop} (h : HC P f args H fun v H' => H = H' ∧ v = V) (k : K V) : callQ P f args H K :=
  ⟨V, h.mono fun _ _ hh => ⟨hh.2, hh.1.symm⟩, k⟩
theorem HC.conseq {P : Program} {f : FuncId} {args : Array Value} {H : Heap} {R R' : Value → Heap → Prop} (h : HC P f args H R) (hr : ∀ v H', R v H' → R' v H') : HC P f args H R' := h.mono hr
/-- below block number B the heap H' is as H was, and no block has gone -/
structure Old (B : Nat) (H H' : Heap) : Prop where
  size : H.size ≤ H'.size
  block : ∀ k, k < B → H'[k]? = H[k]?
theorem Old.refl (B : Nat) (H : Heap) : Old B H H := ⟨Nat.le_refl _, fun _ _ => rfl⟩
theorem Old.trans {B : Nat} {a b c : Heap} (h : Old B a b) (k : Old B b c) : Old B a c := ⟨Nat.le_trans h.size k.size, fun i hi => (k.block i hi).trans (h.block i hi)⟩
theorem Old.mono {B B' : Nat} {a b : Heap} (h : Old B a b) (hB : B' ≤ B) : Old B' a b := ⟨h.size, fun k hk => h.block k (Nat.lt_of_lt_of_le hk hB)⟩
theorem Old.push {B : Nat} {H : Heap} (o : Obj) (hB : B ≤ H.size) : Old B H (H.push o) := ⟨by simp, fun k hk => by rw [Array.getElem?_push, if_neg (by omega)]⟩
theorem hset_size (H : Heap) (a : Addr) (v : Value) : (hset H a v).size = H.size := by simp [hset, World.setCell, wof]
theorem hset_block (H : Heap) (a : Addr) (v : Value) (k : Nat) (h : k ≠ a.block) : (hset H a v)[k]? = H[k]? := by
  simp only [hset, World.setCell, wof, Array.getElem?_modify]; rw [if_neg (by omega)]
theorem Old.hset {B : Nat} {H : Heap} (a : Addr) (v : Value) (hB : B ≤ a.block) : Old B H (hset H a v) :=
  ⟨by rw [hset_size]; exact Nat.le_refl _, fun k hk => hset_block _ _ _ _ (by omega)⟩
theorem Old.set {B : Nat} {H : Heap} (r : Nat) (o : Obj) (hB : B ≤ r) : Old B H (H.setIfInBounds r o) :=
  ⟨by simp, fun k hk => by rw [Array.getElem?_setIfInBounds, if_neg (by omega)]⟩
theorem hcell_of_block {H H' : Heap} {a : Addr} (h : H'[a.block]? = H[a.block]?) : hcell H' a = hcell H a := World.cell?_of_block (w := wof H) (w' := wof H') h
theorem hfrozen_of_block {H H' : Heap} {a : Addr} (h : H'[a.block]? = H[a.block]?) : hfrozen H' a = hfrozen H a := World.frozen?_of_block (w := wof H) (w' := wof H') h
theorem Old.cell {B : Nat} {H H' : Heap} (h : Old B H H') {a : Addr} (ha : a.block < B) : hcell H' a = hcell H a := hcell_of_block (h.block _ ha)
theorem Old.below {w w' : World} (ha : Agree w w') {B : Nat} (h : Old B w.heap w'.heap) : Below B w w' := ⟨ha.os, ha.tape, ha.output, h.size, h.block⟩

/-- a row of cells -/
theorem hcell_cells {H : Heap} {b o : Nat} {c : Array Value} {T : TypeId} {f : Nat × Nat} (h : H[b]? = some (.cells c T f)) : hcell H ⟨b, o, none⟩ = c[o]? := by
  unfold hcell World.cell? wof; simp [h]
theorem hfrozen_cells {H : Heap} {b o : Nat} {c : Array Value} {T : TypeId} (h : H[b]? = some (.cells c T (0, 0))) : hfrozen H ⟨b, o, none⟩ = false := by
  unfold hfrozen World.frozen? wof; simp [h]
theorem hset_cells {H : Heap} {b o : Nat} {c : Array Value} {T : TypeId} {f : Nat × Nat} (v : Value) (h : H[b]? = some (.cells c T f)) :
    (hset H ⟨b, o, none⟩ v)[b]? = some (.cells (c.setIfInBounds o v) T f) := by
  simp [hset, World.setCell, wof, Array.getElem?_modify, h]
theorem hpush_new (H : Heap) (o : Obj) : (H.push o)[H.size]? = some o := by simp
theorem hpush_old {H : Heap} (o : Obj) {k : Nat} (h : k < H.size) : (H.push o)[k]? = H[k]? := by rw [Array.getElem?_push, if_neg (by omega)]
theorem hlt_of_block {H : Heap} {b : Nat} {o : Obj} (h : H[b]? = some o) : b < H.size := by
  rcases Nat.lt_or_ge b H.size with h' | h'
  · exact h'
  · rw [Array.getElem?_eq_none h'] at h; cases h
/-- a store into a row of cells -/
theorem stV_cells {H : Heap} {b o : Nat} {c : Array Value} {T : TypeId} {v : Value} {k : Heap → Prop} (h : H[b]? = some (.cells c T (0, 0))) (ho : o < c.size) (hv : flat v = true)
    (hk : ∀ H', H'.size = H.size → (∀ i, i ≠ b → H'[i]? = H[i]?) → H'[b]? = some (.cells (c.setIfInBounds o v) T (0, 0)) → k H') : stV ⟨b, o, none⟩ v H k :=
  ⟨hv, ⟨c[o], by rw [hcell_cells h]; simp [ho]⟩, hfrozen_cells h, fun H' e => by
    subst e; exact hk _ (hset_size _ _ _) (fun i hi => hset_block _ _ _ _ hi) (hset_cells v h)⟩
theorem wrap_i64 {n : Int} (h1 : -9223372036854775808 ≤ n) (h2 : n ≤ 9223372036854775807) : IntKind.wrap .i64 n = n := IntWalk.i64_in n ⟨h1, h2⟩
end Go.Vc
