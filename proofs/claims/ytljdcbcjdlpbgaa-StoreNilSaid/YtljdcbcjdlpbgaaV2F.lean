/-
  Parts of a proof: see the row.
-/
import Derived.Test.YtljdcbcjdlpbgaaV2E
set_option linter.unusedVariables false
set_option linter.unusedSimpArgs false
namespace Go.V2
open Go.Vc
section
variable {P : Program} {A : Ann} {n : Nat} {w0 : World} {F0 : FF} {H0 : Heap} {ops : Array Oper}
/-- in every world with this heap it yields v -/
def YW (P : Program) (ops : Array Oper) (o : Oper) (v : Value) (a : Act) (H : Heap) : Prop :=
  (Region.wanted o (yielded ops a.tmps) = true ∧ ∀ w : World, w.heap = H → Run1 P o a.eval w v) ∨ (Region.wanted o (yielded ops a.tmps) = false ∧ v = undef)
def Q0 (N : Act → World → Prop) : Exit → Act → World → Prop := fun x a w => x = .normal ∧ N a w
theorem YW.wpOp {i : Nat} {o : Oper} {v : Value} {a : Act} {w : World} {Q : Exit → Act → World → Prop} {K : Act → World → Prop} (hi : ops[i]? = some o) (h : YW P ops o v a w.heap) (hk : K (a.put o.dst v) w) : wpOp P ops Q i K a w := by
  unfold Go.wpOp
  simp only [hi]
  rcases h with ⟨hw, hr⟩ | ⟨hw, rfl⟩
  · simp only [hw, if_true]; exact .inl ((hr w rfl).wp hk)
  · simp only [hw, Bool.false_eq_true, if_false]; exact hk
theorem YW.of_same {o : Oper} {v : Value} {a a' : Act} {H : Heap} (h : YW P ops o v a H) (he : execOp a'.eval o = execOp a.eval o) (hw : Region.wanted o (yielded ops a'.tmps) = Region.wanted o (yielded ops a.tmps)) : YW P ops o v a' H := by
  unfold YW Run1 at *; rw [he, hw]; exact h
theorem wpOp_put0 {N : Act → World → Prop} {j : Nat} {oi oj : Oper} {v : Value} (hj : ops[j]? = some oj) (h1 : ∀ d, oi.dst = some d → d ∉ oj.looksAt ops) (h2 : ∀ d, oi.dst = some d → oj.dst ≠ some d) (h3 : ∀ d, oj.dst = some d → d ∉ oi.looksAt ops)
    (hsi : ∀ cs b, oi.op ≠ .select cs b) (hsj : ∀ cs b, oj.op ≠ .select cs b) {K : Act → World → Prop} {a : Act} {w : World} (h : wpOp P ops (Q0 N) j K (a.put oi.dst v) w) :
    wpOp P ops (Q0 N) j (fun a' w' => (execOp a'.eval oi = execOp a.eval oi ∧ Region.wanted oi (yielded ops a'.tmps) = Region.wanted oi (yielded ops a.tmps)) ∧ K (a'.put oi.dst v) w') a w := by
  have keep : ∀ u, execOp (a.put oj.dst u).eval oi = execOp a.eval oi ∧ Region.wanted oi (yielded ops (a.put oj.dst u).tmps) = Region.wanted oi (yielded ops a.tmps) := fun u =>
    ⟨execOp_put oi hsi a oj.dst u h3, wanted_put oi a oj.dst u h3⟩
  have keepD : ∀ d u, execOp (({ a with defers := d :: a.defers } : Act).put oj.dst u).eval oi = execOp a.eval oi ∧ Region.wanted oi (yielded ops (({ a with defers := d :: a.defers } : Act).put oj.dst u).tmps) = Region.wanted oi (yielded ops a.tmps) := fun d u =>
    ⟨execOp_put oi hsi { a with defers := d :: a.defers } oj.dst u h3, wanted_put oi { a with defers := d :: a.defers } oj.dst u h3⟩
  unfold wpOp at *
  simp only [hj] at *
  rw [wanted_put oj a oi.dst v h1] at h
  split
  · rename_i hw
    simp only [hw, if_true] at h
    rcases h with h | ⟨hasks, hlets⟩
    case inr => exact .inr ⟨by unfold Oper.asks at *; rw [execOp_put oj hsj a oi.dst v h1] at hasks; exact hasks, hlets⟩
    refine .inl ?_
    unfold Oper.wp at *
    rw [execOp_put oj hsj a oi.dst v h1] at h
    generalize (execOp a.eval oj).run P w = r at *
    cases r with
    | ok n w' =>
      cases n <;> simp only [Oper.upon] at h ⊢
      case value u => exact ⟨keep u, by rw [← Act.put_comm a v u h2]; exact h⟩
      case skip => exact ⟨keep _, by rw [← Act.put_comm a v undef h2]; exact h⟩
      case defer d =>
        refine ⟨keepD d _, ?_⟩
        rw [← Act.put_comm _ v undef h2, ← Act.put_defers]
        exact h
      case enter f args =>
        refine Calls.mono h fun e w'' he => ?_
        cases e with
        | returned u => exact ⟨keep u, by rw [← Act.put_comm a v u h2]; exact he⟩
        | panicked c => exact absurd he.1 (by simp)
        | outgrown => exact he
      case row row args => exact Rows.mono h fun u w'' he => ⟨keep u, by rw [← Act.put_comm a v u h2]; exact he⟩
    | halt x w' =>
      cases x <;> simp only [Oper.upon] at h ⊢
      case panic u => exact absurd h.1 (by simp)
  · rename_i hw
    simp only [hw] at h
    exact ⟨keep _, by rw [← Act.put_comm a v undef h2]; exact h⟩

def YWi (P : Program) (ops : Array Oper) (p : Nat × Value) (a : Act) (H : Heap) : Prop := ∃ o, ops[p.1]? = some o ∧ YW P ops o p.2 a H
def wpAnyL (P : Program) (ops : Array Oper) (lab : Nat → Bool) (W : List Nat) (N : Act → World → Prop) : Nat → List (Nat × Value) → Array Bool → Act → World → Prop
  | 0, _, listed, a, w => Region.ready .any ops listed = [] ∧ N a w
  | f + 1, L, listed, a, w => (Region.ready .any ops listed = [] → N a w) ∧ ∀ i ∈ Region.ready .any ops listed,
      wpOp P ops (Q0 N) i (fun a' w' => if lab i = true then w'.heap = w.heap ∧ wpAnyL P ops lab W N f L (listed.setIfInBounds i true) a' w'
        else (∀ p ∈ L, wtB W i p.1 = true ∨ YWi P ops p a' w'.heap) ∧ wpAnyL P ops lab W N f (L.filter fun p => !wtB W i p.1) (listed.setIfInBounds i true) a' w') a w
theorem wpAnyL_any {lab : Nat → Bool} {W : List Nat} {N : Act → World → Prop} : ∀ (f : Nat) (L : List (Nat × Value)) (listed : Array Bool) (a : Act) (w : World), wpAnyL P ops lab W N f L listed a w → wpAny P .any ops (Q0 N) f listed a w
  | 0, _, _, _, _, h => ⟨h.1, rfl, h.2⟩
  | f + 1, L, listed, a, w, h => ⟨fun h0 => ⟨rfl, h.1 h0⟩, fun i hi => wpOp_mono (fun a' w' hh => by
      split at hh
      · exact wpAnyL_any f _ _ _ _ hh.2
      · exact wpAnyL_any f _ _ _ _ hh.2) (h.2 i hi)⟩

/-! ### what is asked of a region -/
def lookB (ops : Array Oper) (o : Oper) (d : Option Nat) : Bool := match d with
  | some d => (o.looksAt ops).contains d
  | none => false
def boxB (A : Ann) (oi ok : Oper) : Bool := match oi.op with
  | .load _ (.tmp s) => (match asc A.bx s with
    | some b => !memB (dk A ok) (kBox b) && !memB (dk A ok) (kOff s)
    | none => true)
  | _ => true
def labA (P : Program) (A : Ann) (ops : Array Oper) (i : Nat) : Bool := match ops[i]? with
  | some o => isQu P A o || isRd P A o
  | none => true
def pairB (P : Program) (A : Ann) (ops : Array Oper) (W : List Nat) (i k : Nat) : Bool := match ops[i]?, ops[k]? with
  | some oi, some ok => cond (Nat.beq i k) (!lookB ops oi oi.dst)
      ((!lookB ops oi ok.dst || wtB W i k) && (match ok.dst with | some d => oi.dst != some d | none => true) && (wtB W i k || boxB A oi ok || (wtB W k i && !labA P A ops k)))
  | _, _ => true
def saneB (P : Program) (A : Ann) (ops : Array Oper) (W : List Nat) : Bool :=
  Region.noSelect ops && (List.range ops.size).all fun i => (List.range ops.size).all fun k => pairB P A ops W i k
structure Sane (P : Program) (A : Ann) (ops : Array Oper) (W : List Nat) : Prop where
  sel : ∀ (j : Nat) (o : Oper) cs b, ops[j]? = some o → o.op ≠ .select cs b
  self : ∀ (i : Nat) (o : Oper) d, ops[i]? = some o → o.dst = some d → d ∉ o.looksAt ops
  look : ∀ (i k : Nat) (oi ok : Oper) d, i ≠ k → ops[i]? = some oi → ops[k]? = some ok → ok.dst = some d → d ∈ oi.looksAt ops → wtB W i k = true
  dst : ∀ (i k : Nat) (oi ok : Oper) d, i ≠ k → ops[i]? = some oi → ops[k]? = some ok → ok.dst = some d → oi.dst ≠ some d
  box : ∀ (i k : Nat) (oi ok : Oper), i ≠ k → ops[i]? = some oi → ops[k]? = some ok → wtB W i k = true ∨ boxB A oi ok = true ∨ (wtB W k i = true ∧ labA P A ops k = false)
theorem saneB_of {W : List Nat} (h : saneB P A ops W = true) : Sane P A ops W := by
  simp only [saneB, Bool.and_eq_true] at h
  have hp : ∀ (i k : Nat) (oi ok : Oper), ops[i]? = some oi → ops[k]? = some ok → pairB P A ops W i k = true := fun i k oi ok hi hk =>
    List.all_eq_true.1 (List.all_eq_true.1 h.2 i (List.mem_range.2 (Array.getElem?_eq_some_iff.1 hi).1)) k (List.mem_range.2 (Array.getElem?_eq_some_iff.1 hk).1)
  have hne : ∀ {i k : Nat}, i ≠ k → Nat.beq i k = false := fun {i k} hik => by
    cases hb : Nat.beq i k with
    | false => rfl
    | true => exact absurd (Nat.eq_of_beq_eq_true hb) hik
  refine ⟨Region.noSelect_spec h.1, fun i o d hi hd hl => ?_, fun i k oi ok d hik hi hk hd hl => ?_, fun i k oi ok d hik hi hk hd he => ?_, fun i k oi ok hik hi hk => ?_⟩
  · have := hp i i o o hi hi
    unfold pairB at this
    simp only [hi, Nat.beq_refl, cond_true, lookB, hd] at this
    simp [hl] at this
  · have := hp i k oi ok hi hk
    unfold pairB at this
    simp only [hi, hk, hne hik, cond_false, lookB, hd, Bool.and_eq_true, Bool.or_eq_true] at this
    rcases this.1.1 with h | h
    · simp [hl] at h
    · exact h
  · have := hp i k oi ok hi hk
    unfold pairB at this
    simp only [hi, hk, hne hik, cond_false, lookB, hd, Bool.and_eq_true] at this
    simp [he] at this
  · have := hp i k oi ok hi hk
    unfold pairB at this
    simp only [hi, hk, hne hik, cond_false, Bool.and_eq_true, Bool.or_eq_true, Bool.not_eq_true'] at this
    rcases this.2 with (h | h) | h
    · exact .inl h
    · exact .inr (.inl h)
    · exact .inr (.inr h)
theorem anyL_first {W : List Nat} {N : Act → World → Prop} (hsane : Sane P A ops W) (hW : ∀ i k, wtB W i k = true → Wt ops i k) {i : Nat} {oi : Oper} {v : Value} (hi : ops[i]? = some oi) :
    ∀ (fuel : Nat) (L : List (Nat × Value)) (listed : Array Bool) (a : Act) (w : World), Closed .any ops listed → (∀ p ∈ L, ∀ o, ops[p.1]? = some o → ∀ d, oi.dst = some d → d ∉ o.looksAt ops) →
      i ∈ Region.ready .any ops listed → YW P ops oi v a w.heap →
      wpAnyL P ops (labA P A ops) W N fuel ((i, v) :: L) (listed.setIfInBounds i true) (a.put oi.dst v) w → labA P A ops i = true → wpAnyL P ops (labA P A ops) W N (fuel + 1) L listed a w := by
  intro fuel
  induction fuel with
  | zero =>
    intro L listed a w _ _ hr hy H hlab
    refine ⟨fun h => (by rw [h] at hr; cases hr), fun j hj => ?_⟩
    by_cases hji : j = i
    · subst hji
      refine hy.wpOp hi ?_
      rw [if_pos hlab]; exact ⟨rfl, H⟩
    · have := ready_mono hj hji
      rw [H.1] at this
      cases this
  | succ fuel ih =>
    intro L listed a w inv hL hr hy H hlab
    refine ⟨fun h => (by rw [h] at hr; cases hr), fun j hj => ?_⟩
    by_cases hji : j = i
    · subst hji
      refine hy.wpOp hi ?_
      rw [if_pos hlab]
      refine ⟨rfl, ?_⟩
      -- the list may be longer than it needs to be
      have weaken : ∀ (f : Nat) (L : List (Nat × Value)) (listed : Array Bool) (a : Act) (w : World) (p : Nat × Value), wpAnyL P ops (labA P A ops) W N f (p :: L) listed a w → wpAnyL P ops (labA P A ops) W N f L listed a w := by
        intro f
        induction f with
        | zero => exact fun L listed a w p h => h
        | succ f ih2 =>
          intro L listed a w p h
          refine ⟨h.1, fun k hk => wpOp_mono (fun a' w' hh => ?_) (h.2 k hk)⟩
          split at hh
          · rename_i hl; rw [if_pos hl]; exact ⟨hh.1, ih2 _ _ _ _ _ hh.2⟩
          · rename_i hl
            rw [if_neg hl]
            refine ⟨fun q hq => hh.1 q (by simp [hq]), ?_⟩
            have h2 := hh.2
            rw [List.filter_cons] at h2
            split at h2
            · exact ih2 _ _ _ _ _ h2
            · exact h2
      exact weaken _ _ _ _ _ _ H
    · obtain ⟨hjun, oj, hoj, hall⟩ := mem_ready.1 hj
      have hiun := (mem_ready.1 hr).1
      have hnij : wtB W i j = false := by
        cases hb : wtB W i j with
        | false => rfl
        | true => exact absurd hr ((hW _ _ hb).ready inv hjun)
      have hnji : wtB W j i = false := by
        cases hb : wtB W j i with
        | false => rfl
        | true => exact absurd hj ((hW _ _ hb).ready inv hiun)
      have g1 : ∀ d, oi.dst = some d → d ∉ oj.looksAt ops := fun d hd hl => by rw [hsane.look j i oj oi d hji hoj hi hd hl] at hnji; cases hnji
      have g2 : ∀ d, oi.dst = some d → oj.dst ≠ some d := fun d hd => hsane.dst j i oj oi d hji hoj hi hd
      have g3 : ∀ d, oj.dst = some d → d ∉ oi.looksAt ops := fun d hd hl => by rw [hsane.look i j oi oj d (Ne.symm hji) hi hoj hd hl] at hnij; cases hnij
      have gs : ∀ d, oi.dst = some d → d ∉ oi.looksAt ops := fun d hd => hsane.self i oi d hi hd
      have h1 := H.2 j (ready_mono hj hji)
      have h2 := wpOp_put0 hoj g1 g2 g3 (fun cs b => hsane.sel i oi cs b hi) (fun cs b => hsane.sel j oj cs b hoj) h1
      refine wpOp_mono (fun a' w' h3 => ?_) h2
      obtain ⟨⟨k1, k2⟩, h3⟩ := h3
      split at h3
      · rename_i hl
        rw [if_pos hl]
        obtain ⟨hh, h3⟩ := h3
        refine ⟨hh, ih L _ a' w' (inv.set hj) hL (ready_mono hr (Ne.symm hji)) (by rw [hh]; exact hy.of_same k1 k2) ?_ hlab⟩
        rw [Array.setIfInBounds_comm _ _ hji]; exact h3
      · rename_i hl
        rw [if_neg hl]
        obtain ⟨hh, h3⟩ := h3
        refine ⟨fun p hp => ?_, ?_⟩
        · rcases hh p (by simp [hp]) with hh | ⟨o, ho, hy2⟩
          · exact .inl hh
          refine .inr ⟨o, ho, ?_⟩
          have hlk := hL p hp o ho
          exact hy2.of_same (execOp_put o (fun cs b => hsane.sel _ o cs b ho) a' oi.dst v hlk).symm (wanted_put o a' oi.dst v hlk).symm
        · have hyi : YW P ops oi v a' w'.heap := by
            rcases hh (i, v) (by simp) with h | ⟨o, ho, hy2⟩
            · rw [hnji] at h; cases h
            · have : o = oi := Option.some.inj (ho.symm.trans hi)
              subst this
              exact hy2.of_same (execOp_put o (fun cs b => hsane.sel _ o cs b ho) a' o.dst v gs).symm (wanted_put o a' o.dst v gs).symm
          refine ih _ _ a' w' (inv.set hj) (fun p hp => hL p (List.mem_filter.1 hp).1) (ready_mono hr (Ne.symm hji)) hyi ?_ hlab
          rw [Array.setIfInBounds_comm _ _ hji]
          rw [List.filter_cons, if_pos (by simp [hnji])] at h3
          exact h3
end
end Go.V2
