/-
  Regions that draw their order: quiet operations in whatever order, loud ones each alone.
-/
import Derived.Test.YtljdcbcjdlpbgaaVcCode
import Derived.StillTail
set_option linter.unusedVariables false
set_option linter.unusedSimpArgs false
namespace Go.Vc

/-! ## regions that draw their order: quiet operations in whatever order, loud ones each alone -/
section
variable {P : Program} {md : Region.Mode} {ops : Array Oper} {lab : Nat → Bool} {w0 : World} {Q : Exit → Act → World → Prop}

def inC (w0 : World) (H : Heap) (w : World) : Prop := w.heap = H ∧ Agree w0 w

def anyM (P : Program) (md : Region.Mode) (ops : Array Oper) (lab : Nat → Bool) (w0 : World) (Q : Exit → Act → World → Prop) : Nat → Heap → Array Bool → Act → Prop
  | 0, H, listed, a => Region.ready md ops listed = [] ∧ ∀ w, inC w0 H w → Q .normal a w
  | f + 1, H, listed, a => (Region.ready md ops listed = [] → ∀ w, inC w0 H w → Q .normal a w) ∧
    ∀ i ∈ Region.ready md ops listed,
      if lab i = true then qOp P ops (inC w0 H) i (anyM P md ops lab w0 Q f H (listed.setIfInBounds i true)) a
      else ∀ w, inC w0 H w → wpOp P ops Q i (fun a' w' => Agree w0 w' ∧ anyM P md ops lab w0 Q f w'.heap (listed.setIfInBounds i true) a') a w

theorem wpAny_of_anyM : ∀ (f : Nat) (H : Heap) (listed : Array Bool) (a : Act) (w : World), inC w0 H w → anyM P md ops lab w0 Q f H listed a → wpAny P md ops Q f listed a w
  | 0, _, _, _, w, hw, h => ⟨h.1, h.2 w hw⟩
  | f + 1, H, listed, a, w, hw, h => by
    refine ⟨fun h0 => h.1 h0 w hw, fun i hi => ?_⟩
    have h1 := h.2 i hi
    by_cases hl : lab i = true
    · rw [if_pos hl] at h1
      exact wpOp_of_qOp (C := inC w0 H) hw (fun a' w' hw' h => wpAny_of_anyM f H _ a' w' hw' h) h1
    · rw [if_neg hl] at h1
      exact wpOp_mono (fun a' w' hh => wpAny_of_anyM f w'.heap _ a' w' ⟨rfl, hh.1⟩ hh.2) (h1 w hw)

/-- operation j waits for operation k, by way of others maybe -/
def waits (md : Region.Mode) (ops : Array Oper) : Nat → Nat → Nat → Bool
  | 0, _, _ => false
  | f + 1, j, k => match ops[j]? with
    | some o => o.after.any fun e => Region.binds md e && (e.on == k || waits md ops f e.on k)
    | none => false
def Closed (md : Region.Mode) (ops : Array Oper) (listed : Array Bool) : Prop :=
  ∀ j oj, ops[j]? = some oj → listed.getD j false = true → ∀ e ∈ oj.after, Region.binds md e = true → listed.getD e.on false = true
theorem Closed.set {i : Nat} {listed : Array Bool} (inv : Closed md ops listed) (hi : i ∈ Region.ready md ops listed) : Closed md ops (listed.setIfInBounds i true) := by
  obtain ⟨_, oi, hoi, hall⟩ := mem_ready.1 hi
  intro j oj hj hl e he hb
  by_cases hij : i = j
  · subst hij
    have : oj = oi := Option.some.inj (hj.symm.trans hoi)
    subst this
    exact getD_set_true (hall e he hb)
  · rw [getD_set_ne false hij] at hl
    exact getD_set_true (inv j oj hj hl e he hb)
theorem waits_listed {listed : Array Bool} (inv : Closed md ops listed) : ∀ (f j k : Nat), waits md ops f j k = true → listed.getD j false = true → listed.getD k false = true := by
  intro f
  induction f with
  | zero => intro j k h; simp [waits] at h
  | succ f ih =>
    intro j k h hl
    simp only [waits] at h
    split at h
    · rename_i o ho
      obtain ⟨e, he, hb⟩ := Array.any_eq_true'.1 h
      simp only [Bool.and_eq_true, Bool.or_eq_true, beq_iff_eq] at hb
      have he1 := inv j o ho hl e he hb.1
      rcases hb.2 with h2 | h2
      · rw [← h2]; exact he1
      · exact ih _ _ h2 he1
    · cases h
theorem waits_not_ready {listed : Array Bool} (inv : Closed md ops listed) {f j k : Nat} (h : waits md ops f j k = true) (hk : listed.getD k true = false) : j ∉ Region.ready md ops listed := by
  intro hj
  obtain ⟨_, o, ho, hall⟩ := mem_ready.1 hj
  cases f with
  | zero => simp [waits] at h
  | succ f =>
    simp only [waits, ho] at h
    obtain ⟨e, he, hb⟩ := Array.any_eq_true'.1 h
    simp only [Bool.and_eq_true, Bool.or_eq_true, beq_iff_eq] at hb
    have he1 := hall e he hb.1
    have : listed.getD k false = true := by
      rcases hb.2 with h2 | h2
      · rw [← h2]; exact he1
      · exact waits_listed inv f _ _ h2 he1
    rw [getD_both hk] at this; cases this

theorem anyM_first {i : Nat} {oi : Oper} {v : Value} {H : Heap} (hi : ops[i]? = some oi) (hsel : ∀ (j : Nat) (o : Oper) cs b, ops[j]? = some o → o.op ≠ .select cs b) (hlab : lab i = true) :
    ∀ (fuel : Nat) (listed : Array Bool) (a : Act), Closed md ops listed →
      (∀ j oj, ops[j]? = some oj → j ≠ i → listed.getD j true = false → (∀ e ∈ oj.after, Region.binds md e = true → e.on ≠ i) → oi.apart ops oj = true) →
      (∀ j, lab j = false → listed.getD j true = false → j < ops.size → ∃ f, waits md ops f j i = true) →
      i ∈ Region.ready md ops listed → YieldsIn P ops (inC w0 H) oi v a →
      anyM P md ops lab w0 Q fuel H (listed.setIfInBounds i true) (a.put oi.dst v) → anyM P md ops lab w0 Q (fuel + 1) H listed a := by
  intro fuel
  induction fuel with
  | zero =>
    intro listed a inv _ hloud hr hy HH
    refine ⟨fun h => (by rw [h] at hr; cases hr), fun j hj => ?_⟩
    by_cases hji : j = i
    · subst hji; rw [if_pos hlab]; exact hy.qOp hi HH
    · have := ready_mono hj hji
      rw [HH.1] at this
      cases this
  | succ fuel ih =>
    intro listed a inv hfree hloud hr hy HH
    refine ⟨fun h => (by rw [h] at hr; cases hr), fun j hj => ?_⟩
    by_cases hji : j = i
    · subst hji; rw [if_pos hlab]; exact hy.qOp hi HH
    · obtain ⟨hjun, oj, hoj, hall⟩ := mem_ready.1 hj
      have hjs : j < ops.size := (Array.getElem?_eq_some_iff.1 hoj).1
      have hlj : lab j = true := by
        cases hl : lab j with
        | true => rfl
        | false =>
          obtain ⟨f, hf⟩ := hloud j hl hjun hjs
          exact absurd hj (waits_not_ready inv hf (mem_ready.1 hr).1)
      rw [if_pos hlj]
      have h1 := HH.2 j (ready_mono hj hji)
      rw [if_pos hlj] at h1
      have hnot : ∀ e ∈ oj.after, Region.binds md e = true → e.on ≠ i := fun e he hb heq => by
        have h1 := hall e he hb
        have h0 := (mem_ready.1 hr).1
        rw [heq, getD_both h0] at h1
        cases h1
      have h2 := qOp_put hoj (hfree j oj hoj hji hjun hnot) (fun cs b => hsel i oi cs b hi) (fun cs b => hsel j oj cs b hoj) hy h1
      have hfree' : ∀ k ok, ops[k]? = some ok → k ≠ i → (listed.setIfInBounds j true).getD k true = false →
          (∀ e ∈ ok.after, Region.binds md e = true → e.on ≠ i) → oi.apart ops ok = true := fun k ok hk hki hun hno => by
        refine hfree k ok hk hki ?_ hno
        by_cases hjk : j = k
        · subst hjk; exact hjun
        · rw [getD_set_ne true hjk] at hun; exact hun
      have hloud' : ∀ k, lab k = false → (listed.setIfInBounds j true).getD k true = false → k < ops.size → ∃ f, waits md ops f k i = true := fun k hk hun hks => by
        refine hloud k hk ?_ hks
        by_cases hjk : j = k
        · subst hjk; exact hjun
        · rw [getD_set_ne true hjk] at hun; exact hun
      refine qOp_mono (fun a' h3 => ih (listed.setIfInBounds j true) a' (inv.set hj) hfree' hloud' (ready_mono hr (Ne.symm hji)) h3.1 ?_) h2
      rw [Array.setIfInBounds_comm _ _ hji]
      exact h3.2

/-- the walk in the text's order -/
def mixW (P : Program) (ops : Array Oper) (lab : Nat → Bool) (w0 : World) (Q : Exit → Act → World → Prop) : List Oper → Nat → Heap → Act → Prop
  | [], _, H, a => ∀ w, inC w0 H w → Q .normal a w
  | o :: r, k, H, a => if Region.wanted o (yielded ops a.tmps) = true then
      (if lab k = true then o.quiet P a (inC w0 H) (mixW P ops lab w0 Q r (k + 1) H)
       else ∀ w, inC w0 H w → o.wp P a w (fun a' w' => Agree w0 w' ∧ mixW P ops lab w0 Q r (k + 1) w'.heap a') Q)
    else mixW P ops lab w0 Q r (k + 1) H (a.put o.dst undef)
def loudOk (md : Region.Mode) (ops : Array Oper) (lab : Nat → Bool) (listed : Array Bool) (k : Nat) : Bool :=
  (List.range ops.size).all fun j => lab j || listed.getD j true || waits md ops ops.size j k
def mixFrom (md : Region.Mode) (ops : Array Oper) (lab : Nat → Bool) : Nat → Nat → Array Bool → Bool
  | 0, _, listed => (Region.ready md ops listed).isEmpty
  | f + 1, k, listed => (Region.ready md ops listed).contains k &&
      cond (lab k) (Region.free md ops listed k && loudOk md ops lab listed k) (decide (Region.ready md ops listed = [k])) &&
      mixFrom md ops lab f (k + 1) (listed.setIfInBounds k true)
theorem anyM_lex (hs : Region.noSelect ops = true) : ∀ (l : List Oper) (k : Nat) (listed : Array Bool) (H : Heap) (a : Act), (∀ j, l[j]? = ops[k + j]?) → Closed md ops listed →
    mixFrom md ops lab l.length k listed = true → mixW P ops lab w0 Q l k H a → anyM P md ops lab w0 Q l.length H listed a
  | [], _, _, _, _, _, _, hB, h => ⟨by simpa [mixFrom] using hB, h⟩
  | o :: l, k, listed, H, a, hl, inv, hB, h => by
    have h0 : ops[k]? = some o := by simpa using (hl 0).symm
    have hks : k < ops.size := (Array.getElem?_eq_some_iff.1 h0).1
    simp only [List.length_cons, mixFrom, Bool.and_eq_true] at hB
    obtain ⟨⟨hr, hf⟩, hB'⟩ := hB
    have hr' : k ∈ Region.ready md ops listed := by simpa using hr
    have hl' : ∀ j, l[j]? = ops[k + 1 + j]? := fun j => by have := hl (j + 1); simpa [Nat.add_assoc, Nat.add_comm 1 j] using this
    have next := fun H' a' => anyM_lex hs l (k + 1) (listed.setIfInBounds k true) H' a' hl' (inv.set hr') hB'
    simp only [mixW] at h
    cases hlab : lab k with
    | true =>
      rw [hlab] at hf h
      simp only [cond_true, Bool.and_eq_true, if_true] at hf h
      have hst : qOp P ops (inC w0 H) k (mixW P ops lab w0 Q l (k + 1) H) a := by unfold qOp; simp only [h0]; exact h
      obtain ⟨v, hy, hK⟩ := yieldsIn_of_qOp h0 hst
      refine anyM_first h0 (Region.noSelect_spec hs) hlab l.length listed a inv (Region.free_spec h0 hf.1) (fun j hj hun hjs => ?_) hr' hy (next H _ hK)
      have := List.all_eq_true.1 hf.2 j (List.mem_range.2 hjs)
      simp only [hj, hun, Bool.false_or] at this
      exact ⟨_, this⟩
    | false =>
      rw [hlab] at hf h
      simp only [cond_false, decide_eq_true_eq, Bool.false_eq_true, if_false] at hf h
      refine ⟨fun h1 => (by rw [hf] at h1; cases h1), fun i hi => ?_⟩
      rw [hf] at hi
      have hik : i = k := by simpa using hi
      subst hik
      rw [if_neg (by rw [hlab]; simp)]
      intro w hw
      unfold wpOp
      simp only [h0]
      by_cases hwt : Region.wanted o (yielded ops a.tmps) = true
      · rw [if_pos hwt] at h ⊢
        exact .inl (Oper.wp_mono (fun a' w' hh => ⟨hh.1, next _ _ hh.2⟩) (h w hw))
      · rw [if_neg hwt] at h ⊢
        exact ⟨hw.2, by rw [hw.1]; exact next _ _ h⟩
end
end Go.Vc
