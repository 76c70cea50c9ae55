/-
  Parts of a proof: see the row.
-/
import Derived.Test.YtljdcbcjdlpbgaaV2G
import Derived.LoopN
set_option linter.unusedVariables false
set_option linter.unusedSimpArgs false
namespace Go.V2
open Go.Vc
section
variable {P : Program} {A : Ann} {n : Nat} {w0 : World} {F0 : FF} {H0 : Heap}
def wr (A : Ann) : Code → List Nat
  | .region _ ops _ => dkL A ops.toList
  | .seq a b => wr A a ++ wr A b
  | .cond _ a b => wr A a ++ wr A b
  | .block _ b => wr A b
  | .loop b => wr A b
  | .scope b => wr A b
  | _ => []
def thenQ (next : Env → FF → Bool → Heap → Prop) (Q : Exit → Env → FF → Bool → Heap → Prop) : Exit → Env → FF → Bool → Heap → Prop
  | .normal, e, F, d, H => next e F d H
  | x, e, F, d, H => Q x e F d H
def blockQ (id : Nat) (Q : Exit → Env → FF → Bool → Heap → Prop) : Exit → Env → FF → Bool → Heap → Prop
  | .exit j, e, F, d, H => cond (Nat.beq j id) (Q .normal e F d H) (Q (.exit j) e F d H)
  | x, e, F, d, H => Q x e F d H
def cutOf (A : Ann) (b : Code) : Option (List (Nat × Kind)) := match headId b with
  | some id => A.cut id
  | none => none
def kindsK : List (Nat × Kind) → List Kind
  | [] => []
  | (_, k) :: r => k :: kindsK r
def getsK : List (Nat × Kind) → Env → List Value
  | [], _ => []
  | (t, _) :: r, e => e.get t :: getsK r e
def vcC (P : Program) (A : Ann) (n : Nat) : Nat → Code → (Exit → Env → FF → Bool → Heap → Prop) → Env → FF → Bool → Heap → Prop
  | _, .skip, Q, e, F, d, H => Q .normal e F d H
  | _, .region _ ops dr, Q, e, F, d, H => cond dr
      (cond (P.follows .mixedOrders && saneB P A ops (masks ops)) (vcD P A n ops (masks ops) ops.size [] (Array.replicate ops.size false) e F d H (Q .normal)) False)
      (vcL P A n ops ops.toList e F d H (Q .normal))
  | i, .seq a b, Q, e, F, d, H => match cutOf A b with
    | none => vcC P A n i a (thenQ (vcC P A n i b Q) Q) e F d H
    | some live => ∃ J : FX (kindsK live), vcC P A n i a (thenQ (fun e' F' d' H' => expo d' F' H' fun F H => apX _ J (getsK live e') F H) Q) e F d H ∧
        ∀ g F' H', Im F H F' H' → allK (kindsK live) fun vs => apX _ J vs F' H' → vcC P A n i b Q (headE e (wr A a) live vs g) F' false H'
  | i, .cond c x y, Q, e, F, d, H => cond (okO A c) (condK (e.eval c) (vcC P A n i x Q e F d H) (vcC P A n i y Q e F d H)) False
  | _, .block id b, Q, e, F, d, H => vcC P A n id b (blockQ id Q) e F d H
  | i, .loop b, Q, e, F, d, H => expo d F H fun F H => ∃ I : Nat → FX (kindsK (A.loop i)), (∃ m, apX _ (I m) (getsK (A.loop i) e) F H) ∧
      ∀ g F' H', Im F H F' H' → allK (kindsK (A.loop i)) fun vs => ∀ m, apX _ (I m) vs F' H' →
        vcC P A n i b (thenQ (fun e2 F2 d2 H2 => expo d2 F2 H2 fun F3 H3 => ∃ m', ltK m' m ∧ apX _ (I m') (getsK (A.loop i) e2) F3 H3) Q) (headE e (wr A b) (A.loop i) vs g) F' false H'
  | _, .exit id, Q, e, F, d, H => Q (.exit id) e F d H
  | _, .ret, Q, e, F, d, H => Q .ret e F d H
  | _, _, _, _, _, _, _ => False

/-- at a head that was come to with frame e' all is as in e' -/
theorem headE_same {e e' : Env} {W : List Nat} {live : List (Nat × Kind)} (hf : Fr W e e') : ∀ t, (headE e W live (getsK live e') fun t => e'.get t).get t = e'.get t := by
  intro t
  unfold headE Env.get
  simp only
  have base : Vc.look (dropE W e.l) (fun t => cond (memB W t) (Vc.look e'.l e'.base t) (e.base t)) t = Vc.look e'.l e'.base t := by
    rw [look_dropE W e.base (fun t => Vc.look e'.l e'.base t)]
    cases hW : memB W t with
    | true => rfl
    | false =>
      have : t ∉ W := fun h => by rw [(memB_iff W t).2 h] at hW; cases hW
      exact (hf t this).symm
  induction live with
  | nil => exact base
  | cons p r ih =>
    obtain ⟨s, k⟩ := p
    simp only [getsK, zipE, Vc.look]
    cases hb : Nat.beq s t with
    | true => have := Nat.eq_of_beq_eq_true hb; subst this; rfl
    | false => exact ih
theorem rounds_rank {c : Code} {Q : Exit → Act → World → Prop} (I : Nat → Act → World → Prop) (round : ∀ m a w, I m a w → c.wp P (Exit.then (fun a' w' => ∃ m', m' < m ∧ I m' a' w') Q) a w) :
    ∀ (k m : Nat) (a : Act) (w : World), m < k → I m a w → Code.rounds P c Q k a w := by
  intro k
  induction k with
  | zero => intro m a w h; omega
  | succ k ih =>
    intro m a w h hI
    refine wp_mono (round m a w hI) fun ex a' w' hh => ?_
    cases ex <;> first
      | exact hh
      | (obtain ⟨m', hm, hI'⟩ := hh; exact ih m' a' w' (by omega) hI')
theorem vcC_wp (c : Code) : ∀ {i : Nat} {Q : Exit → Env → FF → Bool → Heap → Prop} {e : Env} {F : FF} {d : Bool} {H : Heap} {a : Act} {w : World},
    StD A n w0 F0 H0 e F d H a w → vcC P A n i c Q e F d H →
    c.wp P (fun x a' w' => ∃ e' F' d' H', StD A n w0 F0 H0 e' F' d' H' a' w' ∧ Q x e' F' d' H' ∧ Fr (wr A c) e e' ∧ Im F H F' H') a w := by
  induction c with
  | skip => exact fun hs h => wp_skip ⟨_, _, _, _, hs, h, Fr.refl _ _, Im.refl _ _⟩
  | region id ops dr =>
    intro i Q e F d H a w hs h
    simp only [vcC] at h
    cases dr with
    | true =>
      simp only [cond_true] at h
      cases hm : (P.follows .mixedOrders && saneB P A ops (masks ops)) with
      | false => rw [hm] at h; exact h.elim
      | true =>
        rw [hm] at h
        simp only [Bool.and_eq_true] at hm
        have hs' : StD A n w0 F0 H0 e F d H a { w with drawn := w.drawn + 1 } := by
          unfold StD at hs ⊢
          split
          · rename_i hd; rw [if_pos hd] at hs
            obtain ⟨G, s, st⟩ := hs
            exact ⟨G, s, st.eo, ⟨st.ag.tape, st.ag.os, st.ag.output⟩, rfl, st.xt, st.wf, st.bx⟩
          · rename_i hd; rw [if_neg hd] at hs
            exact ⟨hs.eo, ⟨hs.ag.tape, hs.ag.os, hs.ag.output⟩, hs.hp, hs.xt, hs.wf, hs.bx⟩
        refine wp_mono (wp_region_any hm.1 (wpAnyL_any (lab := labA P A ops) (W := masks ops) (N := fun a' w' => ∃ e' F' d' H', StD A n w0 F0 H0 e' F' d' H' a' w' ∧ Q .normal e' F' d' H' ∧ Fr (dkL A ops.toList) e e' ∧ Im F H F' H') _ [] _ _ _ ?_)) ?_
        · exact vcD_sound (saneB_of hm.2) (fun i k h => masks_sound h) _ _ _ _ e F d H a _ (fun e' F' d' H' a' w' h1 h2 h3 h4 => ⟨e', F', d', H', h1, h2, h3, h4⟩)
            (fun j oj _ hl => by rw [getD_replicate_false] at hl; cases hl) hs' (fun p hp => by cases hp) h
        · rintro ex a' w' ⟨rfl, hh⟩; exact hh
    | false =>
      exact wp_region_list (vcL_wp (Q := fun x a' w' => ∃ e' F' d' H', StD A n w0 F0 H0 e' F' d' H' a' w' ∧ Q x e' F' d' H' ∧ Fr (dkL A ops.toList) e e' ∧ Im F H F' H') ops.toList e F d H a w
        (fun e' F' d' H' a' w' h1 h2 h3 h4 => ⟨e', F', d', H', h1, h2, h3, h4⟩) hs h)
  | seq x y ihx ihy =>
    intro i Q e F d H a w hs h
    simp only [vcC] at h
    split at h
    · refine wp_seq (wp_mono (ihx hs h) fun ex a1 w1 hh => ?_)
      obtain ⟨e1, F1, d1, H1, hs1, hh, hf1, him1⟩ := hh
      cases ex <;> first
        | exact ⟨e1, F1, d1, H1, hs1, hh, hf1.mono fun t ht => by simp [wr, ht], him1⟩
        | (refine wp_mono (ihy hs1 hh) fun ex2 a2 w2 hh2 => ?_
           obtain ⟨e2, F2, d2, H2, hs2, hh2, hf2, him2⟩ := hh2
           exact ⟨e2, F2, d2, H2, hs2, hh2, (hf1.mono fun t ht => by simp [wr, ht]).trans (hf2.mono fun t ht => by simp [wr, ht]), him1.trans him2⟩)
    · rename_i live hl
      obtain ⟨J, hx, hy⟩ := h
      refine wp_seq (wp_mono (ihx hs hx) fun ex a1 w1 hh => ?_)
      obtain ⟨e1, F1, d1, H1, hs1, hh, hf1, him1⟩ := hh
      cases ex <;> first
        | exact ⟨e1, F1, d1, H1, hs1, hh, hf1.mono fun t ht => by simp [wr, ht], him1⟩
        | skip
      obtain ⟨G, st, hJ, him⟩ := hs1.expo hh
      have hv := allK_ap _ (hy (fun t => e1.get t) G w1.heap (him1.trans him)) hJ hJ
      have hsm := headE_same (live := live) hf1
      have hst : StD A n w0 F0 H0 (headE e (wr A x) live (getsK live e1) fun t => e1.get t) G false w1.heap a1 w1 := StD.clean ⟨st.eo.same hsm, st.ag, st.hp, st.xt, st.wf, st.bx.same hsm⟩
      refine wp_mono (ihy hst hv) fun ex2 a2 w2 hh2 => ?_
      obtain ⟨e2, F2, d2, H2, hs2, hh2, hf2, him2⟩ := hh2
      refine ⟨e2, F2, d2, H2, hs2, hh2, fun t ht => ?_, (him1.trans him).trans him2⟩
      rw [hf2 t fun h => ht (by simp [wr, h]), hsm, hf1 t fun h => ht (by simp [wr, h])]
  | cond c x y ihx ihy =>
    intro i Q e F d H a w hs h
    simp only [vcC] at h
    cases hc : okO A c with
    | false => rw [hc] at h; exact h.elim
    | true =>
      rw [hc] at h
      obtain ⟨b, hb, h⟩ := condK_of h
      obtain ⟨G, st, _⟩ := hs.st
      refine wp_cond (t := b) (by rw [st.eo.evalO hc]; exact hb) ?_
      cases b
      · refine wp_mono (ihy hs h) fun ex a1 w1 hh => ?_
        obtain ⟨e1, F1, d1, H1, hs1, hh, hf1, him1⟩ := hh
        exact ⟨e1, F1, d1, H1, hs1, hh, hf1.mono fun t ht => by simp [wr, ht], him1⟩
      · refine wp_mono (ihx hs h) fun ex a1 w1 hh => ?_
        obtain ⟨e1, F1, d1, H1, hs1, hh, hf1, him1⟩ := hh
        exact ⟨e1, F1, d1, H1, hs1, hh, hf1.mono fun t ht => by simp [wr, ht], him1⟩
  | block id b ih =>
    intro i Q e F d H a w hs h
    refine wp_block (wp_mono (ih hs h) fun ex a1 w1 hh => ?_)
    obtain ⟨e1, F1, d1, H1, hs1, hh, hf1, him1⟩ := hh
    cases ex <;> first
      | exact ⟨e1, F1, d1, H1, hs1, hh, hf1, him1⟩
      | skip
    rename_i j
    simp only [Exit.inBlock]
    simp only [blockQ] at hh
    by_cases hj : j = id
    · subst hj
      rw [Nat.beq_refl] at hh
      simp only [if_true]; exact ⟨e1, F1, d1, H1, hs1, hh, hf1, him1⟩
    · have : Nat.beq j id = false := by
        cases hb : Nat.beq j id with
        | false => rfl
        | true => exact absurd (Nat.eq_of_beq_eq_true hb) hj
      rw [this] at hh
      simp only [hj, if_false]; exact ⟨e1, F1, d1, H1, hs1, hh, hf1, him1⟩
  | loop b ih =>
    intro i Q e F d H a w hs h
    simp only [vcC] at h
    obtain ⟨G, st, h, him⟩ := hs.expo h
    obtain ⟨I, ⟨m0, hI0⟩, hr⟩ := h
    refine wp_loop_rounds (m0 + 1) (rounds_rank (fun m a' w' => ∃ e' F', St A n w0 F0 H0 e' F' w'.heap a' w' ∧ Fr (wr A b) e e' ∧ Im G w.heap F' w'.heap ∧ apX _ (I m) (getsK (A.loop i) e') F' w'.heap) ?_ (m0 + 1) m0 a w (by omega)
      ⟨e, G, st, Fr.refl _ _, Im.refl _ _, hI0⟩)
    rintro m a1 w1 ⟨e1, F1, st1, hf1, him1, hI1⟩
    have hv := allK_ap _ (hr (fun t => e1.get t) F1 w1.heap him1) hI1 m hI1
    have hsm := headE_same (live := A.loop i) hf1
    have hst : StD A n w0 F0 H0 (headE e (wr A b) (A.loop i) (getsK (A.loop i) e1) fun t => e1.get t) F1 false w1.heap a1 w1 := StD.clean ⟨st1.eo.same hsm, st1.ag, st1.hp, st1.xt, st1.wf, st1.bx.same hsm⟩
    refine wp_mono (ih hst hv) fun ex a2 w2 hh => ?_
    obtain ⟨e2, F2, d2, H2, hs2, hh, hf2, him2⟩ := hh
    have hf : Fr (wr A b) e e2 := fun t ht => by rw [hf2 t ht, hsm, hf1 t ht]
    cases ex <;> first
      | exact ⟨e2, F2, d2, H2, hs2, hh, hf, him.trans (him1.trans him2)⟩
      | skip
    obtain ⟨G2, st2, hh, him3⟩ := hs2.expo hh
    obtain ⟨m', hlt, hI2⟩ := hh
    exact ⟨m', hlt, e2, G2, st2, hf, him1.trans (him2.trans him3), hI2⟩
  | exit id => exact fun hs h => wp_exit ⟨_, _, _, _, hs, h, Fr.refl _ _, Im.refl _ _⟩
  | ret => exact fun hs h => wp_ret ⟨_, _, _, _, hs, h, Fr.refl _ _, Im.refl _ _⟩
  | _ => intros; rename_i h; exact h.elim

/-! ## a function -/
def resA (P : Program) (A : Ann) : List ResultVar → Env → Heap → List Value → (List Value → Prop) → Prop
  | [], _, _, acc, K => K acc.reverse
  | .tmp t :: r, e, H, acc, K => cond (okT A t) (resA P A r e H (e.get t :: acc) K) False
  | .cell s t :: r, e, H, acc, K => match asc A.bx s with
    | some _ => baseA A s e fun b o => boxLoad P A t b o e fun v => resA P A r e H (v :: acc) K
    | none => cond (okT A s) (match e.get s with
      | .pointer p => ptrK p fun b o => ldT P t ⟨b, o, none⟩ H fun v => resA P A r e H (v :: acc) K
      | _ => False) False
def outA (P : Program) (A : Ann) (fn : Func) (ks : List Kind) (R : FX ks) : Exit → Env → FF → Bool → Heap → Prop
  | .normal, e, F, d, H => expo d F H fun F H => resA P A fn.results.toList e H [] fun vs => apX ks R vs F H
  | .ret, e, F, d, H => expo d F H fun F H => resA P A fn.results.toList e H [] fun vs => apX ks R vs F H
  | _, _, _, _, _ => False
def fnX (P : Program) (fn : Func) (c : Code) (A : Ann) (ks : List Kind) (args : List Value) (F : FF) (H : Heap) (R : FX ks) : Prop :=
  vcC P A fn.ntmps 0 c (outA P A fn ks R) ⟨argsE 0 args, fun _ => undef⟩ F false H
theorem resA_run (l : List ResultVar) : ∀ {e : Env} {F : FF} {H : Heap} {a : Act} {w : World} {acc : List Value} {K : List Value → Prop}, St A n w0 F0 H0 e F H a w → resA P A l e H acc K →
    ∃ vs, K (acc.reverse ++ vs) ∧ ∀ w : World, w.heap = H → (l.mapM (resOne a.tmps)).run P w = .ok vs w := by
  induction l with
  | nil => intro e F H a w acc K hs h; exact ⟨[], by simpa [resA] using h, fun w hw => by simp⟩
  | cons r l ih =>
    intro e F H a w acc K hs h
    cases r with
    | tmp t =>
      simp only [resA] at h
      cases ht : okT A t with
      | false => rw [ht] at h; exact h.elim
      | true =>
      rw [ht] at h
      obtain ⟨vs, hk, hr⟩ := ih hs h
      refine ⟨e.get t :: vs, by simpa using hk, fun w hw => ?_⟩
      have h1 : (resOne a.tmps (.tmp t)).run P w = .ok (e.get t) w := by rw [hs.eo.get t ht]; rfl
      rw [List.mapM_cons]
      simp only [Sem.run_bind, h1, Result.andThen_ok, hr w hw]
      rfl
    | cell x t =>
      simp only [resA] at h
      have fin : ∀ (v : Value) (h3 : resA P A l e H (v :: acc) K) (h1 : ∀ w : World, w.heap = H → (resOne a.tmps (.cell x t)).run P w = .ok v w), ∃ vs, K (acc.reverse ++ vs) ∧ ∀ w : World, w.heap = H → ((ResultVar.cell x t :: l).mapM (resOne a.tmps)).run P w = .ok vs w := fun v h3 h1 => by
        obtain ⟨vs, hk, hr⟩ := ih hs h3
        refine ⟨v :: vs, by simpa using hk, fun w hw => ?_⟩
        rw [List.mapM_cons]
        simp only [Sem.run_bind, h1 w hw, Result.andThen_ok, hr w hw]
        rfl
      split at h
      · rename_i b hb
        obtain ⟨b', o, h1, h2, h⟩ := baseA_of h
        obtain ⟨v, hk, hr⟩ := boxLoad_run hs.bx h1 h2 h
        refine fin v hk fun w hw => ?_
        have := hr w hw
        simp only [resOne, Sem.run_bind]
        simp only [Instr.loadAt, Act.eval, Sem.run_bind] at this
        cases hp : a.tmps.getD x undef with
        | pointer p => rw [hp] at this; cases p with
          | none => simp [Instr.sureAddr, stuck, Sem.run] at this
          | some p => simpa [asAddr, Instr.sureAddr] using this
        | _ => rw [hp] at this; simp [Instr.sureAddr, stuck, Sem.run] at this
      · cases hx : okT A x with
        | false => rw [hx] at h; exact h.elim
        | true =>
        rw [hx] at h
        simp only [cond_true] at h
        split at h
        · rename_i p hp
          obtain ⟨b, o, rfl, h2⟩ := ptrK_of h
          obtain ⟨v, h3, hv⟩ := ldT_run (P := P) h2
          refine fin v h3 fun w hw => ?_
          simp only [resOne, ← hs.eo.get x hx, hp, asAddr, Sem.run_bind]
          show ((Sem.pure _).run P w).andThen _ = _
          simp only [Sem.run, Result.andThen_ok]; exact hv w hw
        · exact h.elim
theorem fnX_sound {f : FuncId} {fn : Func} {c : Code} (A : Ann) {ks : List Kind} {args : List Value} {F : FF} {H : Heap} {R : FX ks}
    (hf : P.funcs[f]? = some fn) (hb : fn.body = some c) (hn : (Nat.ble args.length fn.ntmps && Nat.ble fn.ntmps 1000000) = true) (h : fnX P fn c A ks args F H R) :
    HX P f ks args.toArray F H R := by
  intro hw0 w hw
  simp only [Bool.and_eq_true] at hn
  have hlook : ∀ t, Vc.look (argsE 0 args) (fun _ => undef) t = args.getD t undef := fun t => by simpa using argsE_get args 0 t
  have hlen := Nat.le_of_ble_eq_true hn.1
  have hlen2 := Nat.le_of_ble_eq_true hn.2
  have hbig : ∀ t, 1000000 ≤ t → (⟨argsE 0 args, fun _ => undef⟩ : Env).get t = undef := fun t ht => by
    show Vc.look _ _ t = _
    rw [hlook, List.getD_eq_getElem?_getD, List.getElem?_eq_none (by omega)]; rfl
  have hst : ∀ a : Act, a.tmps = args.toArray ++ Array.replicate (fn.ntmps - args.toArray.size) undef → a.defers = [] → StD A fn.ntmps w F H ⟨argsE 0 args, fun _ => undef⟩ F false H a w := fun a ha hd => by
    refine StD.clean ⟨⟨?_, fun t _ => ?_, hd⟩, Agree.refl w, hw, Xt.refl _ _, hw0, fun _ => 0, fun b cs hb => ?_, fun b b' cs cs' hb => ?_, fun t b o cs _ _ hb => ?_⟩
    · rw [ha]; simp; omega
    · show Vc.look _ _ t = _
      rw [hlook, ha]
      simp only [Array.getD_eq_getD_getElem?, List.getD_eq_getElem?_getD, Array.getElem?_append, List.getElem?_toArray, List.size_toArray]
      split
      · rfl
      · rename_i hh
        rw [List.getElem?_eq_none (by omega), Array.getElem?_replicate]
        split <;> rfl
    · rw [hbig _ (by unfold kBox; omega)] at hb; cases hb
    · rw [hbig _ (by unfold kBox; omega)] at hb; cases hb
    · rw [hbig _ (by unfold kBox; omega)] at hb; cases hb
  refine calls_of_wp hf hb (wp_mono (vcC_wp (i := 0) c (hst _ rfl rfl) h) ?_)
  intro ex a' w' hh
  obtain ⟨e', F', d', H', hs', hh, _, _⟩ := hh
  have fin : (expo d' F' H' fun F H => resA P A fn.results.toList e' H [] fun vs => apX ks R vs F H) →
      a'.defers = [] ∧ ∃ v, (results fn a'.tmps).run P w' = .ok v w' ∧ ∃ v', Ending.returned v = .returned v' ∧ Agree w w' ∧ ∃ vs F', v' = tupW vs ∧ Xt F H F' w'.heap ∧ WF F' w'.heap ∧ apX ks R vs F' w'.heap := fun hh => by
    obtain ⟨G, st, hh, _⟩ := hs'.expo hh
    obtain ⟨vs, hk, hr⟩ := resA_run _ st hh
    have hres : (results fn a'.tmps).run P w' = .ok (tupW vs) w' := by
      rw [results_eq, Array.mapM_eq_mapM_toList]
      simp only [Sem.run_bind, Sem.run_map, hr w' rfl, Result.andThen_ok]
      match vs with
      | [] => rfl
      | [v] => rfl
      | v :: u :: r =>
        have : ¬ (v :: u :: r).toArray.size = 1 := by simp
        rw [dif_neg this]; rfl
    exact ⟨st.eo.defers, tupW vs, hres, _, rfl, st.ag, vs, G, rfl, st.xt, st.wf, by simpa using hk⟩
  cases ex
  case normal => exact fin hh
  case ret => exact fin hh
  all_goals exact hh.elim
end
end Go.V2
