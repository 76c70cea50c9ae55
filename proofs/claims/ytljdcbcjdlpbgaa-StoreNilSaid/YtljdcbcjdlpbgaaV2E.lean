/-
  Parts of a proof: see the row.
-/
import Derived.Test.YtljdcbcjdlpbgaaV2D
set_option linter.unusedVariables false
set_option linter.unusedSimpArgs false
namespace Go.V2
open Go.Vc

/-! ## one operation, and rows of them -/
section
variable {P : Program} {A : Ann} {n : Nat} {w0 : World} {F0 : FF} {H0 : Heap}
def isQu (P : Program) (A : Ann) (o : Oper) : Bool := isBoxOp A o.op || (clean A o && isP P o.op)
def isRd (P : Program) (A : Ann) (o : Oper) : Bool := clean A o && isL P o.op
def rdA (P : Program) (A : Ann) (n : Nat) (o : Oper) (e : Env) (F : FF) (d : Bool) (H : Heap) (K : Env → FF → Bool → Heap → Prop) : Prop :=
  expo d F H fun F H => opL P o e.eval H fun v => putA A n o.dst v e fun e' => K e' F false H
/-- a quiet one, or one that looks at the heap -/
def seeA (P : Program) (A : Ann) (n : Nat) (o : Oper) (e : Env) (F : FF) (d : Bool) (H : Heap) (K : Env → FF → Bool → Heap → Prop) : Prop :=
  cond (isQu P A o) (quA P A n o e fun e' => K e' F d H) (cond (isRd P A o) (rdA P A n o e F d H K) False)
def opA (P : Program) (A : Ann) (n : Nat) (o : Oper) (e : Env) (F : FF) (d : Bool) (H : Heap) (K : Env → FF → Bool → Heap → Prop) : Prop :=
  cond (isQu P A o || isRd P A o) (seeA P A n o e F d H K) (loudA P A n o e F d H K)
theorem Run1.wp {o : Oper} {a : Act} {w : World} {v : Value} {next : Act → World → Prop} {Q : Exit → Act → World → Prop} (h : Run1 P o a.eval w v) (hn : next (a.put o.dst v) w) : o.wp P a w next Q := by
  unfold Oper.wp
  rcases h with h | ⟨rfl, h⟩
  · rw [h]; exact hn
  · rw [h]; exact hn
theorem putA_ok {dst : Option Nat} {t : Nat} {v : Value} {e : Env} {K : Env → Prop} (ht : dst = some t) (h : putA A n dst v e K) : t < n ∧ okT A t = true := by
  subst ht
  simp only [putA] at h
  cases hb : (Nat.blt t n && okT A t) with
  | false => rw [hb] at h; exact h.elim
  | true => simp only [Bool.and_eq_true] at hb; exact ⟨Nat.blt_eq.mp hb.1, hb.2⟩
theorem seeA_of {o : Oper} {e : Env} {F : FF} {d : Bool} {H : Heap} {a : Act} {w : World} {K : Env → FF → Bool → Heap → Prop} (hs : StD A n w0 F0 H0 e F d H a w) (h : seeA P A n o e F d H K) :
    ∃ v e' F' d' H', (Stdy P A o v e a ∨ (isRd P A o = true ∧ (∀ t, o.dst = some t → okT A t = true ∧ e'.get t = v) ∧ ∀ w' : World, w'.heap = w.heap → Run1 P o a.eval w' v)) ∧
      K e' F' d' H' ∧ StD A n w0 F0 H0 e' F' d' H' (a.put o.dst v) w ∧ Fr (dk A o) e e' ∧ Im F H F' H' := by
  unfold seeA at h
  cases hq : isQu P A o with
  | true =>
    rw [hq] at h
    obtain ⟨G, st, _⟩ := hs.st
    obtain ⟨v, e', h1, h2, h3, h4, h5⟩ := quA_of st.eo st.bx h
    exact ⟨v, e', F, d, H, .inl h1, h2, hs.re fun F' st' => ⟨h3, h4 _ _ _ st'.bx⟩, h5, Im.refl _ _⟩
  | false =>
    rw [hq] at h
    simp only [cond_false] at h
    cases hr : isRd P A o with
    | false => rw [hr] at h; exact h.elim
    | true =>
      rw [hr] at h
      obtain ⟨G, st, h, him⟩ := hs.expo h
      obtain ⟨v, hk, hrun⟩ := opL_run h
      have hc : clean A o = true := by unfold isRd at hr; simp only [Bool.and_eq_true] at hr; exact hr.1
      obtain ⟨e', h1, h2, h3, h4⟩ := putA_of st.eo hk
      refine ⟨v, e', G, false, w.heap, .inr ⟨rfl, fun t ht => ?_, fun w' hw => ?_⟩, h2, StD.clean ⟨h1, st.ag, rfl, st.xt, st.wf, h4 _ _ _ st.bx⟩, h3.mono dst_dk, him⟩
      · obtain ⟨ok1, ok2⟩ := putA_ok ht hk
        refine ⟨ok2, ?_⟩
        rw [h1.get t ok2, ht]
        simp only [Act.put]
        rw [Go.Vc.getD_set _ _ _ _ (by rw [st.eo.size]; exact ok1), if_pos rfl]
      · unfold Run1; rw [st.eo.exec hc]; exact hrun w' hw
theorem opA_wp {o : Oper} {e : Env} {F : FF} {d : Bool} {H : Heap} {a : Act} {w : World} {K : Env → FF → Bool → Heap → Prop} {next : Act → World → Prop} {Q : Exit → Act → World → Prop}
    (hs : StD A n w0 F0 H0 e F d H a w) (h : opA P A n o e F d H K)
    (hn : ∀ e' F' d' H' u w', StD A n w0 F0 H0 e' F' d' H' (a.put o.dst u) w' → K e' F' d' H' → Fr (dk A o) e e' → Im F H F' H' → next (a.put o.dst u) w') : o.wp P a w next Q := by
  unfold opA at h
  cases hq : (isQu P A o || isRd P A o) with
  | true =>
    rw [hq] at h
    obtain ⟨v, e', F', d', H', h1, h2, h3, h4, h5⟩ := seeA_of hs h
    have hr : Run1 P o a.eval w v := by
      rcases h1 with h1 | ⟨_, _, h1⟩
      · obtain ⟨G, st, _⟩ := hs.st
        exact h1.run st.bx w rfl
      · exact h1 w rfl
    exact hr.wp (hn _ _ _ _ _ _ h3 h2 h4 h5)
  | false => rw [hq] at h; exact loudA_wp hs h hn
def dkL (A : Ann) : List Oper → List Nat
  | [] => []
  | o :: r => dk A o ++ dkL A r
/-- an operation that is not carried out -/
def skipA (A : Ann) (n : Nat) (d : Option Nat) (e : Env) (K : Env → Prop) : Prop :=
  match d with
  | none => K e
  | some t => match asc A.bx t with
    | none => putA A n (some t) undef e K
    | some _ => cond (Nat.blt t 1000000) (K (e.put (kOff t) undef)) False
def vcL (P : Program) (A : Ann) (n : Nat) (ops : Array Oper) : List Oper → Env → FF → Bool → Heap → (Env → FF → Bool → Heap → Prop) → Prop
  | [], e, F, d, H, K => K e F d H
  | o :: r, e, F, d, H, K => guardA A ops o e (fun e => opA P A n o e F d H fun e' F' d' H' => vcL P A n ops r e' F' d' H' K)
      (fun e => skipA A n o.dst e fun e' => vcL P A n ops r e' F d H K)
theorem StD.same {e e' : Env} {F : FF} {d : Bool} {H : Heap} {a : Act} {w : World} (h : StD A n w0 F0 H0 e F d H a w) (hs : ∀ t, e'.get t = e.get t) : StD A n w0 F0 H0 e' F d H a w :=
  h.re fun _ st => ⟨st.eo.same hs, st.bx.same hs⟩
theorem off_box {t s : Nat} (h : t < 1000000) : kOff t ≠ kBox s := by unfold kOff kBox; omega
theorem skipA_of {o : Oper} {e : Env} {K : Env → Prop} {a : Act} (he : EO A n e a) (h : skipA A n o.dst e K) :
    ∃ e', EO A n e' (a.put o.dst undef) ∧ K e' ∧ Fr (dk A o) e e' ∧ (∀ B F H, BX A B e F H a → BX A B e' F H (a.put o.dst undef)) := by
  cases hd : o.dst with
  | none => rw [hd] at h; exact ⟨e, he, h, Fr.refl _ _, fun _ _ _ h => h⟩
  | some t =>
    rw [hd] at h
    simp only [skipA] at h
    cases ha : asc A.bx t with
    | none =>
      rw [ha] at h
      obtain ⟨e', h1, h2, h3, h4⟩ := putA_of he h
      exact ⟨e', h1, h2, h3.mono fun u hu => dst_dk u (by rw [hd]; exact hu), h4⟩
    | some b =>
      rw [ha] at h
      simp only at h
      cases ht : Nat.blt t 1000000 with
      | false => rw [ht] at h; exact h.elim
      | true =>
      rw [ht] at h
      have ht' : t < 1000000 := Nat.blt_eq.mp ht
      refine ⟨_, ⟨by simp [Act.put, he.size], fun u hu => ?_, he.defers⟩, h, Fr.put _ (by unfold dk; rw [hd]; simp [ha]), ?_⟩
      · have hut : t ≠ u := by rintro rfl; rw [(okT_iff.1 hu).2] at ha; cases ha
        rw [Env.get_put, if_neg (by have := (key_ne (s := t) (okT_iff.1 hu).1).1; omega), he.get u hu]
        simp only [Act.put, Array.getD_eq_getD_getElem?, Array.getElem?_setIfInBounds, if_neg hut]
      · rintro B F H ⟨ρ, k1, k2, k3⟩
        have hne : ∀ s, (e.put (kOff t) undef).get (kBox s) = e.get (kBox s) := fun s => by rw [Env.get_put, if_neg (off_box ht')]
        refine ⟨ρ, fun s cs hs => k1 s cs (by rw [← hne]; exact hs), fun s s' cs cs' hs hs' => k2 s s' cs cs' (by rw [← hne]; exact hs) (by rw [← hne]; exact hs'), fun u s o cs hu ho hs => ?_⟩
        rw [hne] at hs
        rw [Env.get_put] at ho
        by_cases hut : kOff t = kOff u
        · rw [if_pos hut] at ho; cases ho
        · rw [if_neg hut] at ho
          have hut' : t ≠ u := fun e => hut (by rw [e])
          simp only [Act.put, Array.getD_eq_getD_getElem?, Array.getElem?_setIfInBounds, if_neg hut']
          have := k3 u s o cs hu ho hs
          simpa [Array.getD_eq_getD_getElem?] using this
theorem StD.putU {o : Oper} {e : Env} {F : FF} {d : Bool} {H : Heap} {a : Act} {w : World} {K : Env → Prop} (h : StD A n w0 F0 H0 e F d H a w) (hk : skipA A n o.dst e K) :
    ∃ e', StD A n w0 F0 H0 e' F d H (a.put o.dst undef) w ∧ K e' ∧ Fr (dk A o) e e' := by
  obtain ⟨G, st, _⟩ := h.st
  obtain ⟨e', h1, h2, h3, h4⟩ := skipA_of st.eo hk
  exact ⟨e', h.re fun F' st' => ⟨h1, h4 _ _ _ st'.bx⟩, h2, h3⟩
theorem vcL_wp {ops : Array Oper} {Q : Exit → Act → World → Prop} {K : Env → FF → Bool → Heap → Prop} (l : List Oper) :
    ∀ (e : Env) (F : FF) (d : Bool) (H : Heap) (a : Act) (w : World),
      (∀ e' F' d' H' a' w', StD A n w0 F0 H0 e' F' d' H' a' w' → K e' F' d' H' → Fr (dkL A l) e e' → Im F H F' H' → Q .normal a' w') →
      StD A n w0 F0 H0 e F d H a w → vcL P A n ops l e F d H K → wpList P ops Q l a w := by
  induction l with
  | nil => exact fun e F d H a w hK hs h => hK e F d H a w hs h (Fr.refl _ _) (Im.refl _ _)
  | cons o r ih =>
    intro e F d H a w hK hs h
    simp only [vcL] at h
    obtain ⟨G, st, _⟩ := hs.st
    obtain ⟨e1, hsame, h | h⟩ := guardA_of st.eo h
    · obtain ⟨hw, h⟩ := h
      simp only [wpList, hw, if_true]
      refine .inl (opA_wp (hs.same hsame) h fun e' F' d' H' u w' hs' hk hf him => ?_)
      refine ih e' F' d' H' _ w' (fun e2 F2 d2 H2 a2 w2 hs2 hk2 hf2 him2 => hK e2 F2 d2 H2 a2 w2 hs2 hk2 ?_ (him.trans him2)) hs' hk
      exact fun t ht => ((hf2 t fun h => ht (by simp [dkL, h])).trans (hf t fun h => ht (by simp [dkL, h]))).trans (hsame t)
    · obtain ⟨hw, h⟩ := h
      simp only [wpList, hw, Bool.false_eq_true, if_false]
      obtain ⟨e2, hs2, hk2, hf2⟩ := (hs.same hsame).putU h
      refine ih e2 F d H _ w (fun e3 F3 d3 H3 a3 w3 hs3 hk3 hf3 him3 => hK e3 F3 d3 H3 a3 w3 hs3 hk3 ?_ him3) hs2 hk2
      exact fun t ht => ((hf3 t fun h => ht (by simp [dkL, h])).trans (hf2 t fun h => ht (by simp [dkL, h]))).trans (hsame t)
end

/-! ## regions that draw their order -/
/-- operation i waits for k -/
inductive Wt (ops : Array Oper) : Nat → Nat → Prop
  | one {i : Nat} {o : Oper} {e : Edge} : ops[i]? = some o → e ∈ o.after → Region.binds .any e = true → Wt ops i e.on
  | more {i k : Nat} {o : Oper} {e : Edge} : ops[i]? = some o → e ∈ o.after → Region.binds .any e = true → Wt ops e.on k → Wt ops i k
theorem Wt.listed {ops : Array Oper} {listed : Array Bool} (inv : Closed .any ops listed) {i k : Nat} (h : Wt ops i k) : listed.getD i false = true → listed.getD k false = true := by
  induction h with
  | one ho he hb => exact fun hl => inv _ _ ho hl _ he hb
  | more ho he hb _ ih => exact fun hl => ih (inv _ _ ho hl _ he hb)
theorem Wt.ready {ops : Array Oper} {listed : Array Bool} (inv : Closed .any ops listed) {i k : Nat} (h : Wt ops i k) (hk : listed.getD k true = false) : i ∉ Region.ready .any ops listed := by
  intro hi
  obtain ⟨_, o, ho, hall⟩ := mem_ready.1 hi
  have hkl : listed.getD k false = false := getD_both hk
  cases h with
  | one ho' he hb =>
    have : o = _ := Option.some.inj (ho.symm.trans ho')
    subst this
    rw [hall _ he hb] at hkl; cases hkl
  | more ho' he hb h =>
    have : o = _ := Option.some.inj (ho.symm.trans ho')
    subst this
    rw [h.listed inv (hall _ he hb)] at hkl; cases hkl
/-- whom the operations wait for, as bits -/
def maskE : List Edge → List Nat → Nat → Nat
  | [], _, m => m
  | e :: r, W, m => cond (Region.binds .any e) (maskE r W (m ||| 2 ^ e.on ||| W.getD e.on 0)) (maskE r W m)
def maskL : List Oper → List Nat → List Nat
  | [], W => W
  | o :: r, W => maskL r (W ++ [maskE o.after.toList W 0])
def masks (ops : Array Oper) : List Nat := maskL ops.toList []
def wtB (W : List Nat) (i k : Nat) : Bool := (W.getD i 0).testBit k
theorem maskE_sound {ops : Array Oper} {W : List Nat} (hW : ∀ i k, wtB W i k = true → Wt ops i k) {i : Nat} {o : Oper} (ho : ops[i]? = some o) : ∀ (l : List Edge) (m : Nat), (∀ e ∈ l, e ∈ o.after) →
    (∀ k, m.testBit k = true → Wt ops i k) → ∀ k, (maskE l W m).testBit k = true → Wt ops i k
  | [], m, _, hm => hm
  | e :: r, m, hl, hm => by
    unfold maskE
    cases hb : Region.binds .any e with
    | false => exact maskE_sound hW ho r m (fun e he => hl e (by simp [he])) hm
    | true =>
      refine maskE_sound hW ho r _ (fun e he => hl e (by simp [he])) fun k hk => ?_
      rw [Nat.testBit_or, Nat.testBit_or, Nat.testBit_two_pow, Bool.or_eq_true, Bool.or_eq_true] at hk
      rcases hk with (hk | hk) | hk
      · exact hm k hk
      · have : e.on = k := by simpa using hk
        subst this; exact .one ho (hl e (by simp)) hb
      · exact .more ho (hl e (by simp)) hb (hW _ _ hk)
theorem maskL_sound {ops : Array Oper} : ∀ (l : List Oper) (W : List Nat), (∀ j, l[j]? = ops[W.length + j]?) → (∀ i k, wtB W i k = true → Wt ops i k) → ∀ i k, wtB (maskL l W) i k = true → Wt ops i k
  | [], W, _, hW => hW
  | o :: r, W, hl, hW => by
    have ho : ops[W.length]? = some o := by simpa using (hl 0).symm
    refine maskL_sound r _ (fun j => by have := hl (j + 1); simp only [List.getElem?_cons_succ] at this; rw [this]; simp [Nat.add_assoc, Nat.add_comm 1 j]) fun i k h => ?_
    unfold wtB at h
    rw [List.getD_eq_getElem?_getD, List.getElem?_append] at h
    split at h
    · exact hW i k (by unfold wtB; rw [List.getD_eq_getElem?_getD]; exact h)
    · rename_i hi
      by_cases hie : i = W.length
      · subst hie
        simp only [Nat.sub_self, List.getElem?_cons_zero, Option.getD_some] at h
        exact maskE_sound hW ho _ 0 (fun e he => by simpa using he) (fun k hk => by simp at hk) k h
      · have : ([maskE o.after.toList W 0] : List Nat)[i - W.length]? = none := by
          rw [List.getElem?_eq_none]; simp; omega
        rw [this] at h; simp at h
theorem masks_sound {ops : Array Oper} {i k : Nat} (h : wtB (masks ops) i k = true) : Wt ops i k :=
  maskL_sound ops.toList [] (by simp) (fun i k h => by simp [wtB] at h) i k h
end Go.V2
