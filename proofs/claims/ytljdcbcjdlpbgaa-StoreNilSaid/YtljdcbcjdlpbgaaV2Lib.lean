/-
  Parts of a proof: see the row.
-/
import Derived.Test.YtljdcbcjdlpbgaaV2H
set_option linter.unusedVariables false
set_option linter.unusedSimpArgs false
namespace Go.V2
open Go.Vc

/-! ## for use -/
/-- nothing may be written, nothing is hidden -/
def E : FF := ⟨fun _ => False, fun _ => False⟩
theorem WF.e (H : Heap) : WF E H := ⟨fun _ h => h.elim, fun _ h => h.elim⟩
theorem Im.ext {F F' : FF} {H H' : Heap} (h : Im F H F' H') : Ext F.x H F'.x H' := ⟨h.size, h.out, h.xfp⟩
theorem Sto.ext {F F' : FF} {H H' : Heap} (h : Sto F H F' H') : Ext F.x H F'.x H' := h.im.ext
theorem _root_.Go.Vc.Grow.xt {H H' : Heap} (g : Grow H H') (F : FF) : Xt F H F H' := ⟨g.1, fun k hk _ => g.2 k hk, fun _ h => .inl h, fun _ h => h, fun _ h => .inl h⟩
theorem _root_.Go.Vc.Grow.im {H H' : Heap} (g : Grow H H') (F : FF) : Im F H F H' := ⟨g.1, fun k hk _ => g.2 k hk, fun _ h => .inl h, fun _ h => h, fun _ h => .inl h⟩
theorem _root_.Go.Vc.Grow.wf {H H' : Heap} (g : Grow H H') {F : FF} (w : WF F H) : WF F H' := ⟨fun k hk => Nat.lt_of_lt_of_le (w.lt k hk) g.1, w.sub⟩
/-- all that is new may be written -/
def FF.upto (G : FF) (H H' : Heap) : FF := ⟨fun k => G.w k ∨ (H.size ≤ k ∧ k < H'.size), fun k => G.x k ∨ (H.size ≤ k ∧ k < H'.size)⟩
/-- a contract of what writes nothing -/
def HP (P : Program) (f : FuncId) (ks : List Kind) (args : Array Value) (H : Heap) (R : FX ks) : Prop := HX P f ks args E H R
def impP (T : Heap → Prop) (G : Heap → FF) : (ks : List Kind) → FX ks → FX ks → Prop
  | [], R, K => ∀ F H, T H → R F H → K (G H) H
  | .int _ :: r, R, K => ∀ n, impP T G r (R n) (K n)
  | .bool :: r, R, K => ∀ b, impP T G r (R b) (K b)
  | .str :: r, R, K => ∀ s, impP T G r (R s) (K s)
  | .ptr :: r, R, K => ∀ p, impP T G r (R p) (K p)
  | .sl :: r, R, K => ∀ p n c, impP T G r (R p n c) (K p n c)
  | .map :: r, R, K => ∀ m, impP T G r (R m) (K m)
  | .any :: r, R, K => ∀ v, impP T G r (R v) (K v)
  | .agg :: r, R, K => ∀ v, impP T G r (R v) (K v)
theorem impP_ap {T : Heap → Prop} {G : Heap → FF} (ks : List Kind) : ∀ {R K : FX ks} {vs : List Value} {F : FF} {H : Heap}, impP T G ks R K → T H → apX ks R vs F H → apX ks K vs (G H) H := by
  induction ks with
  | nil => intro R K vs F H h ht ha; cases vs with
    | nil => exact h F H ht ha
    | cons v l => exact ha.elim
  | cons k r ih =>
    intro R K vs F H h ht ha
    cases k
    case int k =>
      cases vs with
      | nil => exact ha.elim
      | cons v l =>
        cases v <;> first | exact ha.elim | skip
        rename_i j n
        simp only [apX] at ha ⊢
        by_cases hj : j = k
        · subst hj
          simp only [decide_true, cond_true] at ha ⊢
          exact ih (h n) ht ha
        · simp [hj] at ha
    case any => cases vs with
      | nil => exact ha.elim
      | cons v l => exact ih (h _) ht ha
    case sl => cases vs with
      | nil => exact ha.elim
      | cons v l => cases v <;> first | exact ha.elim | exact ih (h _ _ _) ht ha
    all_goals cases vs with
      | nil => exact ha.elim
      | cons v l => cases v <;> first | exact ha.elim | exact ih (h _) ht ha
section
variable {P : Program} {f : FuncId} {ks : List Kind} {args : Array Value} {H : Heap} {R K : FX ks}
theorem HP.pure {G : FF} (h : HP P f ks args H R) (hk : WF G H → impP (fun H' => Grow H H') (fun _ => G) ks R K) : HX P f ks args G H K := fun hw =>
  (h (WF.e H)).mono fun _ _ ⟨vs, F', e, x, _, ha⟩ => by
    have g : Grow H _ := ⟨x.size, fun k hk => x.out k hk fun h => h.elim⟩
    exact ⟨vs, G, e, g.xt G, g.wf hw, impP_ap ks (hk hw) g ha⟩
/-- what the call has made may be written from now on -/
theorem HP.own {G : FF} (h : HP P f ks args H R) (hk : WF G H → impP (fun H' => Grow H H') (fun H' => G.upto H H') ks R K) : HX P f ks args G H K := fun hw =>
  (h (WF.e H)).mono fun _ H' ⟨vs, F', e, x, _, ha⟩ => by
    have g : Grow H H' := ⟨x.size, fun k hk => x.out k hk fun h => h.elim⟩
    exact ⟨vs, G.upto H H', e, ⟨g.1, fun k hk _ => g.2 k hk, fun k hk => hk.imp id fun h => h.1, fun k hk => .inl hk, fun k hk => hk.imp id fun h => h.1⟩,
      ⟨fun k hk => hk.elim (fun h => Nat.lt_of_lt_of_le (hw.lt k h) g.1) fun h => h.2, fun k hk => hk.imp (hw.sub k) id⟩, impP_ap ks (hk hw) g ha⟩
theorem HX.of_hc {G : FF} {Q : Value → Heap → Prop} (h : HC P f args H Q) (hk : WF G H → ∀ v H', Q v H' → Grow H H' ∧ ∃ vs, v = tupW vs ∧ apX ks K vs G H') : HX P f ks args G H K := fun hw =>
  h.mono fun v H' hq => by
    obtain ⟨g, vs, e, a⟩ := hk hw v H' hq
    exact ⟨vs, G, e, g.xt G, g.wf hw, a⟩
/-- a call that may write what its caller may -/
theorem HX.call {G : FF} (h : HX P f ks args G H R) (hk : WF G H → impX (fun G' H' => Xt G H G' H' ∧ WF G' H') ks R K) : HX P f ks args G H K := fun hw => h.mono (hk hw) hw
theorem Xt.ext {F F' : FF} {H H' : Heap} (h : Xt F H F' H') (w : WF F H) : Ext F.x H F'.x H' := (h.im w.sub).ext
end
theorem stepX_grow {G : FF} {H H' : Heap} {K : FF → Prop} (g : Grow H H') (k : K G) : stepX G H H' K := fun w => ⟨G, g.xt G, g.wf w, k⟩
def FF.add (G : FF) (r : Nat) : FF := ⟨fun k => G.w k ∨ k = r, fun k => G.x k ∨ k = r⟩
theorem stepX_add {G : FF} {H H' : Heap} {r : Nat} {K : FF → Prop} (g : Grow H H') (hr : H.size ≤ r) (hr' : r < H'.size) (k : K (G.add r)) : stepX G H H' K := fun w =>
  ⟨G.add r, ⟨g.1, fun k hk _ => g.2 k hk, fun k hk => hk.imp id fun e => by omega, fun k hk => .inl hk, fun k hk => hk.imp id fun e => by omega⟩,
    ⟨fun k hk => hk.elim (fun h => Nat.lt_of_lt_of_le (w.lt k h) g.1) fun e => by omega, fun k hk => hk.imp (w.sub k) id⟩, k⟩
/-- writing where one may -/
theorem stepX_own {G : FF} {H H' : Heap} {b : Nat} {K : FF → Prop} (hb : G.w b) (s : H'.size = H.size) (o : ∀ i, i ≠ b → H'[i]? = H[i]?) (k : K G) : stepX G H H' K := fun w =>
  ⟨G, ⟨by omega, fun k _ hn => o k fun e => hn (e ▸ hb), fun _ h => .inl h, fun _ h => h, fun _ h => .inl h⟩, ⟨fun k hk => by rw [s]; exact w.lt k hk, w.sub⟩, k⟩
/-- a new object, that is not written any more -/
theorem new_im {o : Obj} {G : FF} {H : Heap} {K : Nat → FF → Heap → Prop} (k : ∀ H2, Grow H H2 → H2[H.size]? = some o → H2.size = H.size + 1 → K H.size G H2) : newK o H fun r H2 => stepX G H H2 fun G3 => K r G3 H2 := by
  rintro r H2 rfl rfl
  exact stepX_grow (.push _ _) (k _ (.push _ _) (hpush_new _ _) (by simp))
/-- a new object, to be written -/
theorem new_own {o : Obj} {G : FF} {H : Heap} {K : Nat → FF → Heap → Prop} (k : ∀ H2, Grow H H2 → H2[H.size]? = some o → H2.size = H.size + 1 → K H.size (G.add H.size) H2) : newK o H fun r H2 => stepX G H H2 fun G3 => K r G3 H2 := by
  rintro r H2 rfl rfl
  exact stepX_add (.push _ _) (Nat.le_refl _) (by simp) (k _ (.push _ _) (hpush_new _ _) (by simp))
theorem FF.add_w (G : FF) (r : Nat) : (G.add r).w r := .inr rfl
/-- a store into a struct of one's own -/
theorem st_own {b o : Nat} {c : Array Value} {T : TypeId} {v : Value} {G : FF} {H : Heap} {K : FF → Heap → Prop} (hb : G.w b) (h : CellsAt H b c T) (ho : o < c.size) (hv : flat v = true)
    (hk : ∀ H', H'.size = H.size → (∀ i, i ≠ b → H'[i]? = H[i]?) → CellsAt H' b (c.setIfInBounds o v) T → K G H') : stV ⟨b, o, none⟩ v H fun H' => stepX G H H' fun G' => K G' H' :=
  h.st ho hv fun H' s o e => stepX_own hb s o (hk H' s o e)
theorem _root_.Go.Vc.Row.is_grow {N : Fp} {H H' : Heap} {p : Option Addr} {vs : List Value} (h : Row N H p vs) (g : Grow H H') : rowIs H' p vs := (h.grow g).is
end Go.V2
