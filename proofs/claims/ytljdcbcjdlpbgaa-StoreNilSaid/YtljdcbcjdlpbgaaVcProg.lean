/-
  The demand of a function's code, and that it suffices (fn_sound).
-/
import Derived.Test.YtljdcbcjdlpbgaaVcFn
set_option linter.unusedVariables false
set_option linter.unusedSimpArgs false
namespace Go.Vc

/-! ## values of known kinds, one behind the other -/
def KT : Kind → Type
  | .int _ => Int
  | .bool => Bool
  | .str => ByteArray
  | .ptr => Option Addr
  | .sl => Option Addr × Nat × Nat
  | .map => Option Nat
  | .any => Value
  | .agg => Array Value
def FT (ρ : Type) : List Kind → Type
  | [] => Heap → ρ
  | .int _ :: r => Int → FT ρ r
  | .bool :: r => Bool → FT ρ r
  | .str :: r => ByteArray → FT ρ r
  | .ptr :: r => Option Addr → FT ρ r
  | .sl :: r => Option Addr → Nat → Nat → FT ρ r
  | .map :: r => Option Nat → FT ρ r
  | .any :: r => Value → FT ρ r
  | .agg :: r => Array Value → FT ρ r
/-- all of the kinds -/
def allK : List Kind → (List Value → Prop) → Prop
  | [], K => K []
  | .int k :: r, K => ∀ n, allK r fun l => K (.int k n :: l)
  | .bool :: r, K => ∀ b, allK r fun l => K (.bool b :: l)
  | .str :: r, K => ∀ s, allK r fun l => K (.string s :: l)
  | .ptr :: r, K => ∀ p, allK r fun l => K (.pointer p :: l)
  | .sl :: r, K => ∀ p n c, allK r fun l => K (.slice p n c :: l)
  | .map :: r, K => ∀ m, allK r fun l => K (.map m :: l)
  | .any :: r, K => ∀ v, allK r fun l => K (v :: l)
  | .agg :: r, K => ∀ cs, allK r fun l => K (.agg cs :: l)
/-- these values are of the kinds, and what is said of them holds -/
def apK : (ks : List Kind) → FT Prop ks → List Value → Heap → Prop
  | [], F, [], H => F H
  | .int k :: r, F, .int j n :: l, H => cond (decide (j = k)) (apK r (F n) l H) False
  | .bool :: r, F, .bool b :: l, H => apK r (F b) l H
  | .str :: r, F, .string s :: l, H => apK r (F s) l H
  | .ptr :: r, F, .pointer p :: l, H => apK r (F p) l H
  | .sl :: r, F, .slice p n c :: l, H => apK r (F p n c) l H
  | .map :: r, F, .map m :: l, H => apK r (F m) l H
  | .any :: r, F, v :: l, H => apK r (F v) l H
  | .agg :: r, F, .agg cs :: l, H => apK r (F cs) l H
  | _, _, _, _ => False
def apN : (ks : List Kind) → FT Nat ks → List Value → Heap → Nat
  | [], F, [], H => F H
  | .int _ :: r, F, .int _ n :: l, H => apN r (F n) l H
  | .bool :: r, F, .bool b :: l, H => apN r (F b) l H
  | .str :: r, F, .string s :: l, H => apN r (F s) l H
  | .ptr :: r, F, .pointer p :: l, H => apN r (F p) l H
  | .sl :: r, F, .slice p n c :: l, H => apN r (F p n c) l H
  | .map :: r, F, .map m :: l, H => apN r (F m) l H
  | .any :: r, F, v :: l, H => apN r (F v) l H
  | .agg :: r, F, .agg cs :: l, H => apN r (F cs) l H
  | _, _, _, _ => 0
theorem allK_of (ks : List Kind) : ∀ {K : List Value → Prop} {vs : List Value} {F : FT Prop ks} {H : Heap}, allK ks K → apK ks F vs H → K vs := by
  induction ks with
  | nil => intro K vs F H h ha; cases vs with
    | nil => exact h
    | cons v l => exact ha.elim
  | cons k r ih =>
    intro K vs F H h ha
    cases k
    case int k =>
      cases vs with
      | nil => exact ha.elim
      | cons v l =>
        cases v <;> first | exact ha.elim | skip
        rename_i j n
        simp only [apK] at ha
        by_cases hj : j = k
        · subst hj
          simp only [decide_true, cond_true] at ha
          exact ih (K := fun l => K (_ :: l)) (h n) ha
        · simp [hj] at ha
    case bool => cases vs with
      | nil => exact ha.elim
      | cons v l => cases v <;> first | exact ha.elim | exact ih (K := fun l => K (_ :: l)) (h _) ha
    case str => cases vs with
      | nil => exact ha.elim
      | cons v l => cases v <;> first | exact ha.elim | exact ih (K := fun l => K (_ :: l)) (h _) ha
    case ptr => cases vs with
      | nil => exact ha.elim
      | cons v l => cases v <;> first | exact ha.elim | exact ih (K := fun l => K (_ :: l)) (h _) ha
    case sl => cases vs with
      | nil => exact ha.elim
      | cons v l => cases v <;> first | exact ha.elim | exact ih (K := fun l => K (_ :: l)) (h _ _ _) ha
    case map => cases vs with
      | nil => exact ha.elim
      | cons v l => cases v <;> first | exact ha.elim | exact ih (K := fun l => K (_ :: l)) (h _) ha
    case agg => cases vs with
      | nil => exact ha.elim
      | cons v l => cases v <;> first | exact ha.elim | exact ih (K := fun l => K (_ :: l)) (h _) ha
    case any => cases vs with
      | nil => exact ha.elim
      | cons v l => exact ih (K := fun l => K (_ :: l)) (h _) ha
theorem allK_mono (ks : List Kind) : ∀ {K K' : List Value → Prop}, (∀ vs, vs.length = ks.length → K vs → K' vs) → allK ks K → allK ks K' := by
  induction ks with
  | nil => exact fun hk h => hk _ rfl h
  | cons k r ih =>
    intro K K' hk h
    cases k <;> first
      | exact fun x => ih (fun vs hl h => hk _ (by simp [hl]) h) (h x)
      | exact fun x y z => ih (fun vs hl h => hk _ (by simp [hl]) h) (h x y z)
theorem apK_len (ks : List Kind) : ∀ {F : FT Prop ks} {vs : List Value} {H : Heap}, apK ks F vs H → vs.length = ks.length := by
  induction ks with
  | nil => intro F vs H h; cases vs with
    | nil => rfl
    | cons v l => exact h.elim
  | cons k r ih =>
    intro F vs H h
    cases k
    case int k =>
      cases vs with
      | nil => exact h.elim
      | cons v l =>
        cases v <;> first | exact h.elim | skip
        rename_i j n
        simp only [apK] at h
        by_cases hj : j = k
        · subst hj; simp only [decide_true, cond_true] at h; simp [ih h]
        · simp [hj] at h
    all_goals cases vs with
      | nil => exact h.elim
      | cons v l => cases v <;> first | exact h.elim | simp [ih h]

/-! ## code -/
structure Ann where
  /-- behind a block's number: the slots that its loop carries -/
  loop : Nat → List (Nat × Kind) := fun _ => []
  /-- ahead of the region of this number what is known is said anew -/
  cut : Nat → Option (List (Nat × Kind)) := fun _ => none
  /-- which calls of this region, which draws its order, act -/
  loud : Nat → List Nat := fun _ => []
def headId : Code → Option Nat
  | .region id _ _ => some id
  | .seq a _ => headId a
  | .block _ b => headId b
  | .loop b => headId b
  | _ => none
def wr : Code → List Nat
  | .region _ ops _ => dsts ops.toList
  | .seq a b => wr a ++ wr b
  | .cond _ a b => wr a ++ wr b
  | .block _ b => wr b
  | .loop b => wr b
  | .scope b => wr b
  | _ => []
def zipE : List (Nat × Kind) → List Value → List (Nat × Value) → List (Nat × Value)
  | (t, _) :: r, v :: vs, l => (t, v) :: zipE r vs l
  | _, _, l => l
def dropE (W : List Nat) : List (Nat × Value) → List (Nat × Value)
  | [] => []
  | (t, v) :: l => cond (memB W t) (dropE W l) ((t, v) :: dropE W l)
def headE (e : Env) (W : List Nat) (live : List (Nat × Kind)) (vs : List Value) (g : Nat → Value) : Env :=
  ⟨zipE live vs (dropE W e.l), fun t => cond (memB W t) (g t) (e.base t)⟩
theorem look_dropE (W : List Nat) (b g : Nat → Value) (l : List (Nat × Value)) (t : Nat) :
    look (dropE W l) (fun t => cond (memB W t) (g t) (b t)) t = cond (memB W t) (g t) (look l b t) := by
  induction l with
  | nil => rfl
  | cons x l ih =>
    obtain ⟨s, v⟩ := x
    simp only [dropE, look]
    cases hW : memB W s with
    | true =>
      simp only [cond_true, ih]
      cases hb : Nat.beq s t with
      | true =>
        have := Nat.eq_of_beq_eq_true hb; subst this; simp [hW]
      | false => simp
    | false =>
      simp only [cond_false, look, ih]
      cases hb : Nat.beq s t with
      | true => have := Nat.eq_of_beq_eq_true hb; subst this; simp [hW]
      | false => simp
theorem headE_get_out {e : Env} {W : List Nat} {live : List (Nat × Kind)} {vs : List Value} {g : Nat → Value} {t : Nat}
    (h : ∀ p ∈ live, p.1 ≠ t) : (headE e W live vs g).get t = cond (memB W t) (g t) (e.get t) := by
  unfold headE Env.get
  simp only
  rw [← look_dropE]
  induction live generalizing vs with
  | nil => cases vs <;> rfl
  | cons p r ih =>
    obtain ⟨s, k⟩ := p
    cases vs with
    | nil => rfl
    | cons v vs =>
      have hs : Nat.beq s t = false := by
        cases hb : Nat.beq s t with
        | false => rfl
        | true => exact absurd (Nat.eq_of_beq_eq_true hb) (h (s, k) (by simp))
      simp only [zipE, look, hs, cond_false]
      exact ih (fun p hp => h p (by simp [hp]))
/-- the frame at a head, of a state in which the carried slots hold just these -/
theorem headE_ok {n : Nat} {e : Env} {W : List Nat} {live : List (Nat × Kind)} {a : Act} (hs : a.tmps.size = n) (hd : a.defers = [])
    (hout : ∀ t, t ∉ W → a.tmps.getD t undef = e.get t) :
    EnvOk n (headE e W live (live.map fun p => a.tmps.getD p.1 undef) fun t => a.tmps.getD t undef) a where
  size := hs
  defers := hd
  get t := by
    have base : look (dropE W e.l) (fun t => cond (memB W t) (a.tmps.getD t undef) (e.base t)) t = a.tmps.getD t undef := by
      rw [look_dropE W e.base (fun t => a.tmps.getD t undef)]
      cases hW : memB W t with
      | true => rfl
      | false =>
        have : t ∉ W := fun h => by rw [(memB_iff W t).2 h] at hW; cases hW
        exact (hout t this).symm
    unfold headE Env.get
    simp only
    induction live with
    | nil => exact base
    | cons p r ih =>
      obtain ⟨s, k⟩ := p
      simp only [List.map_cons, zipE, look]
      cases hb : Nat.beq s t with
      | true => have := Nat.eq_of_beq_eq_true hb; subst this; rfl
      | false => exact ih

def thenQ (next : Env → Heap → Prop) (Q : Exit → Env → Heap → Prop) : Exit → Env → Heap → Prop
  | .normal, e, H => next e H
  | x, e, H => Q x e H
def blockQ (id : Nat) (Q : Exit → Env → Heap → Prop) : Exit → Env → Heap → Prop
  | .exit j, e, H => cond (Nat.beq j id) (Q .normal e H) (Q (.exit j) e H)
  | x, e, H => Q x e H
def roundQ (again : Env → Heap → Prop) (Q : Exit → Env → Heap → Prop) : Exit → Env → Heap → Prop
  | .normal, e, H => again e H
  | x, e, H => Q x e H
/-- the measure has gone down -/
def ltK (a b : Nat) : Prop := a < b
def cutOf (A : Ann) (b : Code) : Option (List (Nat × Kind)) := match headId b with
  | some id => A.cut id
  | none => none
def getsE (live : List (Nat × Kind)) (e : Env) : List Value := live.map fun p => e.get p.1
def condK (v : Value) (x y : Prop) : Prop := match v with
  | .bool b => br b x y
  | _ => False
def vcCode (P : Program) (n : Nat) (A : Ann) : Nat → Code → (Exit → Env → Heap → Prop) → Env → Heap → Prop
  | _, .skip, Q, e, H => Q .normal e H
  | _, .region id ops d, Q, e, H => cond d (drawVc P n (A.loud id) ops e H (Q .normal)) (vcOps P n ops ops.toList e H (Q .normal))
  | i, .seq a b, Q, e, H => match cutOf A b with
    | none => vcCode P n A i a (thenQ (vcCode P n A i b Q) Q) e H
    | some live => cond (live.all fun p => memB (wr a) p.1) (∃ J : FT Prop (live.map (·.2)), vcCode P n A i a (thenQ (fun e' H' => apK _ J (getsE live e') H') Q) e H ∧
        ∀ g H', allK (live.map (·.2)) fun vs => apK _ J vs H' → vcCode P n A i b Q (headE e (wr a) live vs g) H') False
  | i, .cond c x y, Q, e, H => condK (e.eval c) (vcCode P n A i x Q e H) (vcCode P n A i y Q e H)
  | _, .block id b, Q, e, H => vcCode P n A id b (blockQ id Q) e H
  | i, .loop b, Q, e, H => cond ((A.loop i).all fun p => memB (wr b) p.1) (∃ (I : FT Prop ((A.loop i).map (·.2))) (μ : FT Nat ((A.loop i).map (·.2))), apK _ I (getsE (A.loop i) e) H ∧
      ∀ g H', allK ((A.loop i).map (·.2)) fun vs => apK _ I vs H' →
        vcCode P n A i b (roundQ (fun e' H'' => apK _ I (getsE (A.loop i) e') H'' ∧ ltK (apN _ μ (getsE (A.loop i) e') H'') (apN _ μ vs H')) Q) (headE e (wr b) (A.loop i) vs g) H') False
  | _, .exit id, Q, e, H => Q (.exit id) e H
  | _, .ret, Q, e, H => Q .ret e H
  | _, _, _, _, _ => False

theorem headE_out {e : Env} {W : List Nat} {live : List (Nat × Kind)} {vs : List Value} {g : Nat → Value} {t : Nat} (h : ∀ p ∈ live, p.1 ∈ W) (ht : t ∉ W) :
    (headE e W live vs g).get t = e.get t := by
  rw [headE_get_out (fun p hp hpt => ht (by rw [← hpt]; exact h p hp))]
  cases hW : memB W t with
  | true => exact absurd ((memB_iff W t).1 hW) ht
  | false => rfl

theorem condK_of {v : Value} {x y : Prop} (h : condK v x y) : ∃ b, v = .bool b ∧ br b x y := by
  unfold condK at h; split at h
  · exact ⟨_, rfl, h⟩
  · exact h.elim
theorem all_mem {W : List Nat} {live : List (Nat × Kind)} (h : (live.all fun p => memB W p.1) = true) : ∀ p ∈ live, p.1 ∈ W := by
  intro p hp
  exact (memB_iff _ _).1 (List.all_eq_true.1 h p hp)
/-- what a piece of code does not write stays -/
theorem vcCode_frame {P : Program} {n : Nat} {A : Ann} (c : Code) : ∀ {i : Nat} {Q Q' : Exit → Env → Heap → Prop} {e : Env} {H : Heap},
    (∀ x e' H', (∀ t, t ∉ wr c → e'.get t = e.get t) → Q x e' H' → Q' x e' H') → vcCode P n A i c Q e H → vcCode P n A i c Q' e H := by
  induction c with
  | skip => exact fun hk h => hk _ _ _ (fun _ _ => rfl) h
  | region id ops d =>
    intro i Q Q' e H hk h
    exact cond_mono (drawVc_frame fun e' H' => hk _ e' H') (vcOps_frame _ fun e' H' => hk _ e' H') h
  | seq a b iha ihb =>
    intro i Q Q' e H hk h
    simp only [vcCode] at h ⊢
    split at h
    · refine iha (fun x e1 H1 h1 h => ?_) h
      have h1' : ∀ t, t ∉ wr (.seq a b) → e1.get t = e.get t := fun t ht => h1 t (fun hh => ht (by simp [wr, hh]))
      cases x <;> first
        | exact hk _ _ _ h1' h
        | exact ihb (fun x2 e2 H2 h2 h => hk _ _ _ (fun t ht => (h2 t (fun hh => ht (by simp [wr, hh]))).trans (h1' t ht)) h) h
    · rename_i live hl
      cases hall : (live.all fun p => memB (wr a) p.1) with
      | false => rw [hall] at h; exact h.elim
      | true =>
        rw [hall] at h
        obtain ⟨J, ha, hb⟩ := h
        refine ⟨J, iha (fun x e1 H1 h1 h => ?_) ha, fun g H' => allK_mono _ (fun vs hvs hb hJ => ihb (fun x2 e2 H2 h2 h => hk _ _ _ (fun t ht => ?_) h) (hb hJ)) (hb g H')⟩
        · have h1' : ∀ t, t ∉ wr (.seq a b) → e1.get t = e.get t := fun t ht => h1 t (fun hh => ht (by simp [wr, hh]))
          cases x <;> first
            | exact h
            | exact hk _ _ _ h1' h
        · rw [h2 t (fun hh => ht (by simp [wr, hh])), headE_out (all_mem hall) (fun hh => ht (by simp [wr, hh]))]
  | cond c x y ihx ihy =>
    intro i Q Q' e H hk h
    simp only [vcCode] at h ⊢
    obtain ⟨b, hb, h⟩ := condK_of h
    rw [hb]
    exact cond_mono (ihx fun x e' H' h' => hk _ _ _ fun t ht => h' t (fun hh => ht (by simp [wr, hh]))) (ihy fun x e' H' h' => hk _ _ _ fun t ht => h' t (fun hh => ht (by simp [wr, hh]))) h
  | block id b ih =>
    intro i Q Q' e H hk h
    simp only [vcCode] at h ⊢
    refine ih (fun x e' H' h' h => ?_) h
    have h1 : ∀ t, t ∉ wr (.block id b) → e'.get t = e.get t := fun t ht => h' t (fun hh => ht (by simpa [wr] using hh))
    cases x <;> first
      | exact hk _ _ _ h1 h
      | exact cond_mono (hk _ _ _ h1) (hk _ _ _ h1) h
  | loop b ih =>
    intro i Q Q' e H hk h
    simp only [vcCode] at h ⊢
    cases hall : ((A.loop i).all fun p => memB (wr b) p.1) with
    | false => rw [hall] at h; exact h.elim
    | true =>
      rw [hall] at h
      obtain ⟨I, μ, h0, hr⟩ := h
      refine ⟨I, μ, h0, fun g H' => allK_mono _ (fun vs hvs hr hI => ih (fun x e' H'' h' h => ?_) (hr hI)) (hr g H')⟩
      have h1 : ∀ t, t ∉ wr (.loop b) → e'.get t = e.get t := fun t ht => by
        rw [h' t (fun hh => ht (by simpa [wr] using hh)), headE_out (all_mem hall) (fun hh => ht (by simpa [wr] using hh))]
      cases x <;> first
        | exact h
        | exact hk _ _ _ h1 h
  | exit id => exact fun hk h => hk _ _ _ (fun _ _ => rfl) h
  | ret => exact fun hk h => hk _ _ _ (fun _ _ => rfl) h
  | _ => intros; rename_i h; exact h.elim

theorem vcCode_wp {P : Program} {n : Nat} {A : Ann} {w0 : World} (c : Code) : ∀ {i : Nat} {Q : Exit → Env → Heap → Prop} {e : Env} {a : Act} {w : World},
    EnvOk n e a → Agree w0 w → vcCode P n A i c Q e w.heap →
    c.wp P (fun x a' w' => ∃ e', EnvOk n e' a' ∧ Agree w0 w' ∧ Q x e' w'.heap) a w := by
  induction c with
  | skip => exact fun he h0 h => wp_skip ⟨_, he, h0, h⟩
  | region id ops d =>
    intro i Q e a w he h0 h
    simp only [vcCode] at h
    cases d with
    | true => exact drawVc_wp (w0 := w0) (K := fun e H => Q .normal e H) (fun e a w he h0 h => ⟨e, he, h0, h⟩) he h0 h
    | false => exact wp_region_list (vcOps_wp (w0 := w0) (K := fun e H => Q .normal e H) (fun e a w he h0 h => ⟨e, he, h0, h⟩) _ e a w he h0 h)
  | seq x y ihx ihy =>
    intro i Q e a w he h0 h
    simp only [vcCode] at h
    split at h
    · refine wp_seq (wp_mono (ihx he h0 h) fun ex a1 w1 hh => ?_)
      obtain ⟨e1, he1, h01, hh⟩ := hh
      cases ex <;> first
        | exact ⟨e1, he1, h01, hh⟩
        | exact ihy he1 h01 hh
    · rename_i live hl
      cases hall : (live.all fun p => memB (wr x) p.1) with
      | false => rw [hall] at h; exact h.elim
      | true =>
        rw [hall] at h
        obtain ⟨J, hx, hy⟩ := h
        have hx := vcCode_frame (Q' := fun ex e' H' => thenQ (fun e' H' => apK _ J (getsE live e') H') Q ex e' H' ∧ ∀ t, t ∉ wr x → e'.get t = e.get t) x (fun _ _ _ h1 h2 => ⟨h2, h1⟩) hx
        refine wp_seq (wp_mono (ihx he h0 hx) fun ex a1 w1 hh => ?_)
        obtain ⟨e1, he1, h01, hh, hfr⟩ := hh
        cases ex <;> first
          | exact ⟨e1, he1, h01, hh⟩
          | skip
        have hg : getsE live e1 = live.map fun p => a1.tmps.getD p.1 undef := by
          unfold getsE; exact List.map_congr_left fun p _ => he1.get p.1
        have hJ : apK _ J (getsE live e1) w1.heap := hh
        have hv := allK_of _ (hy (fun t => a1.tmps.getD t undef) w1.heap) hJ hJ
        rw [hg] at hv
        exact ihy (headE_ok he1.size he1.defers fun t ht => by rw [← he1.get, hfr t ht]) h01 hv
  | cond c x y ihx ihy =>
    intro i Q e a w he h0 h
    simp only [vcCode] at h
    obtain ⟨b, hb, h⟩ := condK_of h
    refine wp_cond (t := b) (by rw [he.eval]; exact hb) ?_
    cases b
    · exact ihy he h0 h
    · exact ihx he h0 h
  | block id b ih =>
    intro i Q e a w he h0 h
    refine wp_block (wp_mono (ih he h0 h) fun ex a1 w1 hh => ?_)
    obtain ⟨e1, he1, h01, hh⟩ := hh
    cases ex <;> first
      | exact ⟨e1, he1, h01, hh⟩
      | skip
    rename_i j
    simp only [Exit.inBlock]
    simp only [blockQ] at hh
    by_cases hj : j = id
    · subst hj; simp at hh ⊢; exact ⟨e1, he1, h01, hh⟩
    · have : Nat.beq j id = false := by
        cases hb : Nat.beq j id with
        | false => rfl
        | true => exact absurd (Nat.eq_of_beq_eq_true hb) hj
      rw [this] at hh
      simp only [hj, if_false]; exact ⟨e1, he1, h01, hh⟩
  | loop b ih =>
    intro i Q e a w he h0 h
    simp only [vcCode] at h
    cases hall : ((A.loop i).all fun p => memB (wr b) p.1) with
    | false => rw [hall] at h; exact h.elim
    | true =>
      rw [hall] at h
      obtain ⟨I, μ, hI, hr⟩ := h
      let gv (a' : Act) : List Value := (A.loop i).map fun p => a'.tmps.getD p.1 undef
      have hgv : ∀ (e1 : Env) (a1 : Act), EnvOk n e1 a1 → getsE (A.loop i) e1 = gv a1 := fun e1 a1 he1 => by
        unfold getsE; exact List.map_congr_left fun p _ => he1.get p.1
      refine wp_loop (fun a' w' => a'.tmps.size = n ∧ a'.defers = [] ∧ Agree w0 w' ∧ (∀ t, t ∉ wr b → a'.tmps.getD t undef = e.get t) ∧ apK _ I (gv a') w'.heap)
        (fun a' w' => apN _ μ (gv a') w'.heap) ⟨he.size, he.defers, h0, fun t _ => (he.get t).symm, by rw [← hgv e a he]; exact hI⟩ ?_
      rintro a1 w1 ⟨hs, hd, h01, hout, hI1⟩
      have hv := allK_of _ (hr (fun t => a1.tmps.getD t undef) w1.heap) hI1 hI1
      have hv := vcCode_frame (Q' := fun ex e' H' => roundQ (fun e' H'' => apK _ I (getsE (A.loop i) e') H'' ∧ ltK (apN _ μ (getsE (A.loop i) e') H'') (apN _ μ (gv a1) w1.heap)) Q ex e' H' ∧ ∀ t, t ∉ wr b → e'.get t = e.get t) b
        (fun _ e' _ h1 h2 => ⟨h2, fun t ht => by rw [h1 t ht, headE_out (all_mem hall) ht]⟩) hv
      refine wp_mono (ih (headE_ok hs hd hout) h01 hv) fun ex a2 w2 hh => ?_
      obtain ⟨e2, he2, h02, hh, hfr⟩ := hh
      cases ex <;> first
        | exact ⟨e2, he2, h02, hh⟩
        | skip
      obtain ⟨hI2, hlt⟩ := hh
      unfold ltK at hlt
      rw [hgv e2 a2 he2] at hI2 hlt
      exact ⟨⟨he2.size, he2.defers, h02, fun t ht => by rw [← he2.get, hfr t ht], hI2⟩, hlt⟩
  | exit id => exact fun he h0 h => wp_exit ⟨_, he, h0, h⟩
  | ret => exact fun he h0 h => wp_ret ⟨_, he, h0, h⟩
  | _ => intros; rename_i h; exact h.elim

/-! ## a function -/
def resK (P : Program) : List ResultVar → Env → Heap → List Value → (List Value → Prop) → Prop
  | [], _, _, acc, K => K acc.reverse
  | .tmp t :: r, e, H, acc, K => resK P r e H (e.get t :: acc) K
  | .cell a t :: r, e, H, acc, K => match e.get a with
    | .pointer p => ptrK p fun b o => ldTy P t ⟨b, o, none⟩ H fun v => resK P r e H (v :: acc) K
    | _ => False
def tupV : List Value → Value
  | [v] => v
  | vs => .tuple vs.toArray
def argsE : Nat → List Value → List (Nat × Value)
  | _, [] => []
  | i, v :: r => (i, v) :: argsE (i + 1) r
def outQ (P : Program) (fn : Func) (R : Value → Heap → Prop) : Exit → Env → Heap → Prop
  | .normal, e, H => resK P fn.results.toList e H [] fun vs => R (tupV vs) H
  | .ret, e, H => resK P fn.results.toList e H [] fun vs => R (tupV vs) H
  | _, _, _ => False
def fnVc (P : Program) (fn : Func) (c : Code) (A : Ann) (args : List Value) (H : Heap) (R : Value → Heap → Prop) : Prop :=
  vcCode P fn.ntmps A 0 c (outQ P fn R) ⟨argsE 0 args, fun _ => undef⟩ H
def resOne (tmps : Array Value) : ResultVar → Sem Value
  | .tmp t => pure (tmps.getD t undef)
  | .cell a t => do loadVar t (← asAddr (tmps.getD a undef))
theorem results_eq (fn : Func) (tmps : Array Value) : results fn tmps = (fn.results.mapM (resOne tmps) >>= fun vs => pure (if h : vs.size = 1 then vs[0] else .tuple vs)) := by
  have : (fun x => match x with
    | .tmp t => pure (tmps.getD t undef)
    | .cell a t => do loadVar t (← asAddr (tmps.getD a undef)) : ResultVar → Sem Value) = resOne tmps := by
    funext x; cases x <;> rfl
  rw [← this]; rfl
theorem resK_run {P : Program} {n : Nat} (l : List ResultVar) : ∀ {e : Env} {a : Act} {H : Heap} {acc : List Value} {K : List Value → Prop}, EnvOk n e a → resK P l e H acc K →
    ∃ vs, K (acc.reverse ++ vs) ∧ ∀ w : World, w.heap = H → (l.mapM (resOne a.tmps)).run P w = .ok vs w := by
  induction l with
  | nil => intro e a H acc K he h; exact ⟨[], by simpa [resK] using h, fun w hw => by simp⟩
  | cons r l ih =>
    intro e a H acc K he h
    cases r with
    | tmp t =>
      obtain ⟨vs, hk, hr⟩ := ih he h
      refine ⟨e.get t :: vs, by simpa using hk, fun w hw => ?_⟩
      have h1 : (resOne a.tmps (.tmp t)).run P w = .ok (e.get t) w := by rw [he.get]; rfl
      rw [List.mapM_cons]
      simp only [Sem.run_bind, h1, Result.andThen_ok, hr w hw]
      rfl
    | cell x t =>
      simp only [resK] at h
      split at h
      · rename_i p hp
        obtain ⟨b, o, rfl, h2⟩ := ptrK_of h
        obtain ⟨v, h3, hv⟩ := ldTy_run (P := P) h2
        obtain ⟨vs, hk, hr⟩ := ih he h3
        refine ⟨v :: vs, by simpa using hk, fun w hw => ?_⟩
        have h1 : (resOne a.tmps (.cell x t)).run P w = .ok v w := by
          simp only [resOne, ← he.get, hp, asAddr, Sem.run_bind]
          show ((Sem.pure _).run P w).andThen _ = _
          simp only [Sem.run, Result.andThen_ok]; exact hv w hw
        rw [List.mapM_cons]
        simp only [Sem.run_bind, h1, Result.andThen_ok, hr w hw]
        rfl
      · exact h.elim
theorem res_run {P : Program} {n : Nat} {fn : Func} {e : Env} {a : Act} {H : Heap} {R : Value → Prop} (he : EnvOk n e a) (h : resK P fn.results.toList e H [] fun vs => R (tupV vs)) :
    ∃ v, R v ∧ ∀ w : World, w.heap = H → (results fn a.tmps).run P w = .ok v w := by
  obtain ⟨vs, hk, hr⟩ := resK_run _ he h
  refine ⟨tupV vs, by simpa using hk, fun w hw => ?_⟩
  rw [results_eq, Array.mapM_eq_mapM_toList]
  simp only [Sem.run_bind, Sem.run_map, hr w hw, Result.andThen_ok]
  match vs with
  | [] => rfl
  | [v] => rfl
  | v :: u :: r =>
    have : ¬ (v :: u :: r).toArray.size = 1 := by simp
    rw [dif_neg this]; rfl
theorem argsE_get (l : List Value) : ∀ (i t : Nat), look (argsE i l) (fun _ => undef) (i + t) = l.getD t undef := by
  induction l with
  | nil => intro i t; rfl
  | cons v r ih =>
    intro i t
    cases t with
    | zero => simp [argsE, look]
    | succ t =>
      have : Nat.beq i (i + (t + 1)) = false := by
        cases hb : Nat.beq i (i + (t + 1)) with
        | false => rfl
        | true => have := Nat.eq_of_beq_eq_true hb; omega
      simp only [argsE, look, this, cond_false]
      have h := ih (i + 1) t
      rw [show i + 1 + t = i + (t + 1) by omega] at h
      simpa using h
theorem fn_sound {P : Program} {f : FuncId} {fn : Func} {c : Code} (A : Ann) {args : List Value} {H : Heap} {R : Value → Heap → Prop}
    (hf : P.funcs[f]? = some fn) (hb : fn.body = some c) (hn : Nat.ble args.length fn.ntmps = true) (h : fnVc P fn c A args H R) :
    HC P f args.toArray H R := by
  intro w hw
  refine calls_of_wp hf hb (wp_mono (vcCode_wp (n := fn.ntmps) (w0 := w) (i := 0) (A := A) (e := ⟨argsE 0 args, fun _ => undef⟩) (Q := outQ P fn R) c ⟨?_, ?_, rfl⟩ (Agree.refl w) (by rw [hw]; exact h)) ?_)
  · have := Nat.le_of_ble_eq_true hn
    simp; omega
  · intro t
    have := argsE_get args 0 t
    simp only [Nat.zero_add] at this
    show look _ _ t = _
    rw [this]
    simp only [Array.getD_eq_getD_getElem?, List.getD_eq_getElem?_getD, Array.getElem?_append, List.getElem?_toArray, List.size_toArray]
    split
    · rfl
    · rename_i hh
      rw [List.getElem?_eq_none (by omega), Array.getElem?_replicate]
      split <;> rfl
  · intro ex a' w' hh
    obtain ⟨e', he', h0, hh⟩ := hh
    cases ex
    case normal =>
      obtain ⟨v, hk, hr⟩ := res_run (R := fun v => R v w'.heap) he' (by unfold outQ at hh; exact hh)
      exact ⟨he'.defers, v, hr w' rfl, _, rfl, h0, hk⟩
    case ret =>
      obtain ⟨v, hk, hr⟩ := res_run (R := fun v => R v w'.heap) he' (by unfold outQ at hh; exact hh)
      exact ⟨he'.defers, v, hr w' rfl, _, rfl, h0, hk⟩
    all_goals exact hh.elim
end Go.Vc
