/-
  The weakest demand of a piece of the model's own language, over the heap alone, and that it suffices.
-/
import Derived.Calls
import Derived.Tactics
import Derived.Deep.Quiet
import Derived.KernelRfl
import Derived.Laws.Sem
set_option linter.unusedVariables false
set_option linter.unusedSimpArgs false
namespace Go.Vc

abbrev Heap := Array Obj

/-- a world with this heap: for saying the model's own words of a heap -/
def wof (H : Heap) : World := { (default : World) with heap := H }
def hcell (H : Heap) (a : Addr) : Option Value := (wof H).cell? a
def hshape (H : Heap) (r : Nat) : Option (TypeId × Nat) := (wof H).shape? r
def hfrozen (H : Heap) (a : Addr) : Bool := (wof H).frozen? a
def hset (H : Heap) (a : Addr) (v : Value) : Heap := ((wof H).setCell a v).heap
def hfreeze (H : Heap) (a : Addr) (n : Nat) : Heap := ((wof H).freeze a n).heap
theorem cell_heap (w : World) (a : Addr) : w.cell? a = hcell w.heap a := rfl
theorem shape_heap (w : World) (r : Nat) : w.shape? r = hshape w.heap r := rfl
theorem frozen_heap (w : World) (a : Addr) : w.frozen? a = hfrozen w.heap a := rfl
theorem set_heap (w : World) (a : Addr) (v : Value) : w.setCell a v = { w with heap := hset w.heap a v } := rfl
theorem freeze_heap (w : World) (a : Addr) (n : Nat) : (w.freeze a n) = { w with heap := hfreeze w.heap a n } := by
  unfold hfreeze World.freeze wof; split <;> rfl

/-- nothing but the heap and the count of draws has moved; the count only where the heap has. -/
structure Agree (w w' : World) : Prop where
  tape : w'.tape = w.tape
  os : w'.os = w.os
  output : w'.output = w.output
theorem Agree.refl (w : World) : Agree w w := ⟨rfl, rfl, rfl⟩
theorem Agree.trans {a b c : World} (h : Agree a b) (k : Agree b c) : Agree a c :=
  ⟨k.tape.trans h.tape, k.os.trans h.os, k.output.trans h.output⟩

def HC (P : Program) (f : FuncId) (args : Array Value) (H : Heap) (R : Value → Heap → Prop) : Prop :=
  ∀ w : World, w.heap = H → Calls P f args w (fun e w' => ∃ v, e = .returned v ∧ Agree w w' ∧ R v w'.heap)
theorem HC.mono {P : Program} {f : FuncId} {args : Array Value} {H : Heap} {R R' : Value → Heap → Prop} (h : HC P f args H R) (hr : ∀ v H', R v H' → R' v H') :
    HC P f args H R' := fun w hw => (h w hw).mono fun _ _ ⟨v, he, ha, hR⟩ => ⟨v, he, ha, hr _ _ hR⟩

/-! ## one operation -/

def ldV (a : Addr) (H : Heap) (k : Value → Prop) : Prop := ∃ v, hcell H a = some v ∧ k v
def flat : Value → Bool
  | .agg _ => false
  | .tuple _ => false
  | _ => true
def stV (a : Addr) (v : Value) (H : Heap) (k : Heap → Prop) : Prop :=
  flat v = true ∧ (∃ u, hcell H a = some u) ∧ hfrozen H a = false ∧ ∀ H', H' = hset H a v → k H'
def newK (o : Obj) (H : Heap) (k : Nat → Heap → Prop) : Prop := ∀ r H', r = H.size → H' = H.push o → k r H'
def getK (r : Nat) (H : Heap) (k : Obj → Prop) : Prop := ∃ o, H[r]? = some o ∧ (∀ c e f, o ≠ .cells c e f) ∧ k o
def setK (r : Nat) (o : Obj) (H : Heap) (k : Heap → Prop) : Prop :=
  (∃ u, H[r]? = some u ∧ ∀ c e f, u ≠ .cells c e f) ∧ ∀ H', H' = H.setIfInBounds r o → k H'

/-- the weakest demand of a piece of the model's own language, over the heap alone -/
def semVc {α : Type} (p : Program) : Sem α → Heap → (α → Heap → Prop) → Prop
  | .pure a, H, K => K a H
  | .load _ a k, H, K => ldV a H fun v => semVc p (k v) H K
  | .store _ a v k, H, K => stV a v H fun H' => semVc p k H' K
  | .new o k, H, K => newK o H fun r H' => semVc p (k r) H' K
  | .shape r k, H, K => semVc p (k (hshape H r)) H K
  | .freeze a n k, H, K => semVc p k (hfreeze H a n) K
  | .frozen a k, H, K => semVc p (k (hfrozen H a)) H K
  | .getObj r k, H, K => getK r H fun o => semVc p (k o) H K
  | .setObj r o k, H, K => setK r o H fun H' => semVc p k H' K
  | .choose q k, H, K => cond q.forced (semVc p (k 0) H K) (∀ t, semVc p (k (q.cut t)) H K)
  | .sys _ _, _, _ => False
  | .program k, H, K => semVc p (k p) H K
  | .mark _ k, H, K => semVc p k H K
  | .halt _, _, _ => False

theorem semVc_sound {α : Type} (p : Program) (s : Sem α) : ∀ (w : World) (K : α → Heap → Prop), semVc p s w.heap K →
    ∃ a w', s.run p w = .ok a w' ∧ Agree w w' ∧ K a w'.heap := by
  induction s with
  | pure a => exact fun w K h => ⟨a, w, rfl, .refl w, h⟩
  | load m a k ih =>
    rintro w K ⟨v, hv, h⟩
    obtain ⟨x, w', e, ha, hk⟩ := ih v w K h
    refine ⟨x, w', ?_, ha, hk⟩
    rw [← cell_heap] at hv
    simp only [Sem.run, hv]; exact e
  | store m a v k ih =>
    rintro w K ⟨hf, ⟨u, hu⟩, hz, h⟩
    obtain ⟨x, w', e, ha, hk⟩ := ih (w.setCell a v) K (h _ rfl)
    refine ⟨x, w', ?_, ⟨ha.tape, ha.os, ha.output⟩, hk⟩
    rw [← cell_heap] at hu; rw [← frozen_heap] at hz
    cases v <;> first | (simp [flat] at hf; done) | (simp only [Sem.run, hu, hz]; exact e)
  | new o k ih =>
    intro w K h
    obtain ⟨x, w', e, ha, hk⟩ := ih w.heap.size { w with heap := w.heap.push o } K (h _ _ rfl rfl)
    exact ⟨x, w', e, ⟨ha.tape, ha.os, ha.output⟩, hk⟩
  | shape r k ih => exact fun w K h => ih _ w K h
  | freeze a n k ih =>
    intro w K h
    obtain ⟨x, w', e, ha, hk⟩ := ih (w.freeze a n) K (by rw [freeze_heap]; exact h)
    rw [freeze_heap] at ha
    exact ⟨x, w', e, ⟨ha.tape, ha.os, ha.output⟩, hk⟩
  | frozen a k ih => exact fun w K h => ih _ w K h
  | getObj r k ih =>
    rintro w K ⟨o, ho, hn, h⟩
    obtain ⟨x, w', e, ha, hk⟩ := ih o w K h
    refine ⟨x, w', ?_, ha, hk⟩
    simp only [Sem.run, ho]
    cases o <;> first | exact absurd rfl (hn _ _ _) | exact e
  | setObj r o k ih =>
    rintro w K ⟨⟨u, hu, hn⟩, h⟩
    obtain ⟨x, w', e, ha, hk⟩ := ih { w with heap := w.heap.setIfInBounds r o } K (h _ rfl)
    refine ⟨x, w', ?_, ⟨ha.tape, ha.os, ha.output⟩, hk⟩
    simp only [Sem.run, hu]
    cases u <;> first | exact absurd rfl (hn _ _ _) | exact e
  | choose q k ih =>
    intro w K h
    simp only [semVc] at h
    cases hq : q.forced with
    | true =>
      rw [hq] at h
      obtain ⟨x, w', e, ha, hk⟩ := ih _ w K h
      exact ⟨x, w', by simp only [Sem.run, hq, if_true]; exact e, ha, hk⟩
    | false =>
      rw [hq] at h
      obtain ⟨x, w', e, ha, hk⟩ := ih _ { w with drawn := w.drawn + 1 } K (h (w.tape w.drawn q))
      exact ⟨x, w', by simp only [Sem.run, hq, Bool.false_eq_true, if_false]; exact e, ⟨ha.tape, ha.os, ha.output⟩, hk⟩
  | sys c k => exact fun _ _ h => h.elim
  | program k ih => exact fun w K h => ih _ w K h
  | mark m k ih => exact fun w K h => ih w K h
  | halt h => exact fun _ _ h => h.elim

theorem semVc_mono {α : Type} (p : Program) (s : Sem α) : ∀ (H : Heap) (K K' : α → Heap → Prop), (∀ a H, K a H → K' a H) → semVc p s H K → semVc p s H K' := by
  induction s with
  | pure a => exact fun H K K' hk h => hk _ _ h
  | load m a k ih => rintro H K K' hk ⟨v, hv, h⟩; exact ⟨v, hv, ih v H K K' hk h⟩
  | store m a v k ih => rintro H K K' hk ⟨h1, h2, h3, h⟩; exact ⟨h1, h2, h3, fun H' e => ih _ K K' hk (h H' e)⟩
  | new o k ih => exact fun H K K' hk h r H' e1 e2 => ih _ _ K K' hk (h r H' e1 e2)
  | shape r k ih => exact fun H K K' hk h => ih _ H K K' hk h
  | freeze a n k ih => exact fun H K K' hk h => ih _ K K' hk h
  | frozen a k ih => exact fun H K K' hk h => ih _ H K K' hk h
  | getObj r k ih => rintro H K K' hk ⟨o, h1, h2, h⟩; exact ⟨o, h1, h2, ih o H K K' hk h⟩
  | setObj r o k ih => rintro H K K' hk ⟨h1, h⟩; exact ⟨h1, fun H' e => ih _ K K' hk (h H' e)⟩
  | choose q k ih =>
    intro H K K' hk h
    simp only [semVc] at h ⊢
    cases hq : q.forced with
    | true => rw [hq] at h; exact ih _ H K K' hk h
    | false => rw [hq] at h; exact fun t => ih _ H K K' hk (h t)
  | sys c k => exact fun _ _ _ _ h => h.elim
  | program k ih => exact fun H K K' hk h => ih _ H K K' hk h
  | mark m k ih => exact fun H K K' hk h => ih H K K' hk h
  | halt h => exact fun _ _ _ _ h => h.elim
end Go.Vc
