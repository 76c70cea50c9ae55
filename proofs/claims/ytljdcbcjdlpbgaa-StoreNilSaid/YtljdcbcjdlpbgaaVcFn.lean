/-
  What follows from more follows from less; regions.
-/
import Derived.Test.YtljdcbcjdlpbgaaVcMix
set_option linter.unusedVariables false
set_option linter.unusedSimpArgs false
namespace Go.Vc

/-! ## what follows from more follows from less -/
theorem ptrK_mono {p : Option Addr} {K K' : Nat → Nat → Prop} (hk : ∀ b o, K b o → K' b o) (h : ptrK p K) : ptrK p K' := by
  obtain ⟨b, o, rfl, h⟩ := ptrK_of h; exact hk _ _ h
theorem ldK_mono {kd : Kind} {a : Addr} {H : Heap} {K K' : Value → Prop} (hk : ∀ v, K v → K' v) (h : ldK kd a H K) : ldK kd a H K' := by
  cases kd
  case int k => obtain ⟨n, h1, h2⟩ := h; exact ⟨_, h1, hk _ h2⟩
  case bool => obtain ⟨n, h1, h2⟩ := h; exact ⟨_, h1, hk _ h2⟩
  case str => obtain ⟨n, h1, h2⟩ := h; exact ⟨_, h1, hk _ h2⟩
  case ptr => obtain ⟨n, h1, h2⟩ := h; exact ⟨_, h1, hk _ h2⟩
  case sl => obtain ⟨n, m, c, h1, h2⟩ := h; exact ⟨_, _, _, h1, hk _ h2⟩
  case map => obtain ⟨n, h1, h2⟩ := h; exact ⟨_, h1, hk _ h2⟩
  case any => obtain ⟨n, h1, h2⟩ := h; exact ⟨_, h1, hk _ h2⟩
  case agg => exact h.elim
theorem ldCells_mono (ks : List Kind) : ∀ {a : Addr} {i : Nat} {H : Heap} {acc : List Value} {K K' : List Value → Prop}, (∀ v, K v → K' v) → ldCells ks a i H acc K → ldCells ks a i H acc K' := by
  induction ks with
  | nil => exact fun hk h => hk _ h
  | cons kd r ih => exact fun hk h => ldK_mono (fun v h => ih hk h) h
theorem cond_mono {b : Bool} {x x' y y' : Prop} (hx : x → x') (hy : y → y') (h : cond b x y) : cond b x' y' := by
  cases b
  · exact hy h
  · exact hx h
theorem ldTy_mono {P : Program} {t : TypeId} {a : Addr} {H : Heap} {K K' : Value → Prop} (hk : ∀ v, K v → K' v) (h : ldTy P t a H K) : ldTy P t a H K' :=
  cond_mono (cond_mono (ldCells_mono _ fun _ => hk _) id) (cond_mono (ldK_mono hk) id) h
theorem idxVc_mono {P : Program} {t : TypeId} {x i : Value} {K K' : Value → Prop} (hk : ∀ v, K v → K' v) (h : idxVc P t x i K) : idxVc P t x i K' := by
  unfold idxVc at h ⊢
  split at h
  · exact ⟨h.1, ptrK_mono (fun b o h => cond_mono (hk _) id h) h.2⟩
  · exact ⟨h.1, ptrK_mono (fun b o h => cond_mono (hk _) id h) h.2⟩
  · exact h.elim
theorem optInt_mono {x : Option Value} {K K' : Option Int → Prop} (hk : ∀ v, K v → K' v) (h : optInt x K) : optInt x K' := by
  unfold optInt at h ⊢; split at h
  · exact hk _ h
  · exact hk _ h
  · exact h.elim
theorem bndOk_mono {x : Option Int} {y : Nat} {K K' : Prop} (hk : K → K') (h : bndOk x y K) : bndOk x y K' := by
  unfold bndOk at h ⊢; split at h
  · exact ⟨h.1, hk h.2⟩
  · exact hk h
theorem slVc_mono {P : Program} {t : TypeId} {x : Value} {lo hi mx : Option Value} {K K' : Value → Prop} (hk : ∀ v, K v → K' v) (h : slVc P t x lo hi mx K) : slVc P t x lo hi mx K' := by
  unfold slVc at h ⊢
  split at h
  · split at h
    · exact optInt_mono (fun _ => optInt_mono fun _ => bndOk_mono (bndOk_mono (hk _))) h
    · exact h.elim
  · exact optInt_mono (fun _ => optInt_mono fun _ => optInt_mono fun _ => cond_mono (bndOk_mono (bndOk_mono (bndOk_mono (hk _)))) id) h
  · exact optInt_mono (fun _ => optInt_mono fun _ => optInt_mono fun _ => cond_mono (ptrK_mono fun _ _ => bndOk_mono (bndOk_mono (bndOk_mono (hk _)))) id) h
  · exact h.elim
theorem shVc_mono {op : BinOp} {x y : Value} {K K' : Value → Prop} (hk : ∀ v, K v → K' v) (h : shVc op x y K) : shVc op x y K' := by
  unfold shVc at h ⊢
  split at h
  · refine ⟨h.1, ?_⟩
    have h := h.2
    split at h
    · exact hk _ h
    · exact hk _ h
    · exact h.elim
  · exact h.elim
theorem qnext_mono {x : Option Next} {K K' : Value → Prop} (hk : ∀ v, K v → K' v) (h : qnext K x) : qnext K' x := by
  unfold qnext at h ⊢; split at h
  · exact hk _ h
  · exact hk _ h
  · exact h.elim
theorem nilB_mono {P : Program} {t : TypeId} {x y : Value} {K K' : Bool → Prop} {o o' : Prop} (hk : ∀ b, K b → K' b) (ho : o → o') (h : nilB P t x y K o) : nilB P t x y K' o' := by
  unfold nilB at h ⊢
  split at h
  · exact hk _ h
  · exact hk _ h
  · exact hk _ h
  · exact ho h
theorem strK_mono {x : Value} {H : Heap} {K K' : ByteArray → Prop} (hk : ∀ s, K s → K' s) (h : strK x H K) : strK x H K' := by
  unfold strK at h ⊢
  split at h
  · obtain ⟨bs, h1, h2, h3⟩ := h; exact ⟨bs, h1, h2, hk _ h3⟩
  · exact h.elim
theorem mapK_mono {x : Value} {H : Heap} {K K' : Array MapEntry → Prop} (hk : ∀ s, K s → K' s) (h : mapK x H K) : mapK x H K' := by
  unfold mapK at h ⊢
  split at h
  · exact hk _ h
  · obtain ⟨es, c, h1, h2⟩ := h; exact ⟨es, c, h1, hk _ h2⟩
  · exact h.elim
theorem lenK_mono {x : Option Value} {H : Heap} {K K' : Value → Prop} (hk : ∀ s, K s → K' s) (h : lenK x H K) : lenK x H K' := by
  unfold lenK at h ⊢
  split at h
  · exact mapK_mono (fun _ => hk _) h
  · exact h.elim
theorem zeroOf_mono {P : Program} {t : TypeId} {K K' : Value → Prop} (hk : ∀ s, K s → K' s) (h : zeroOf P t K) : zeroOf P t K' := by
  unfold zeroOf at h ⊢
  split at h
  · exact hk _ h
  · exact h.elim
theorem lkK_mono {P : Program} {t : TypeId} {m i : Value} {ok : Bool} {H : Heap} {K K' : Value → Prop} (hk : ∀ s, K s → K' s) (h : lkK P (fun t v K => shp P [t] v K) t m i ok H K) :
    lkK P (fun t v K => shp P [t] v K) t m i ok H K' := by
  unfold lkK at h ⊢
  split at h
  · split at h
    · exact cond_mono (mapK_mono fun es h => ⟨h.1, fun v hv => shp_mono (fun _ => hk _) (h.2.1 v hv), fun hn => zeroOf_mono (fun _ => hk _) (h.2.2 hn)⟩) id h
    · exact h.elim
  · exact h.elim
theorem effVc_mono {P : Program} {o : Oper} {ρ : Operand → Value} {H : Heap} {K K' : Value → Heap → Prop} (hk : ∀ v H, K v H → K' v H) (hs : ∀ x H, nextK P K x H → nextK P K' x H) (h : effVc P o ρ H K) : effVc P o ρ H K' := by
  unfold effVc at h ⊢
  split at h
  · exact semVc_mono P _ _ _ _ (fun v H' h => shp_mono (fun u => hk u H') h) h
  · exact semVc_mono P _ _ _ _ (fun v H' h => shp_mono (fun u => hk u H') h) h
  · exact semVc_mono P _ _ _ _ hk h
  · exact semVc_mono P _ _ _ _ hk h
  · exact semVc_mono P _ _ _ _ (fun v H' h => shp_mono (fun u => hk u H') h) h
  · exact semVc_mono P _ _ _ _ (fun v H' h => hk _ _ h) h
  · exact semVc_mono P _ _ _ _ (fun v H' h => shp_mono (fun u => hk u H') h) h
  · exact semVc_mono P _ _ _ _ (fun v H' h => by obtain ⟨p, e, h⟩ := h; exact ⟨p, e, hk _ _ h⟩) h
  · exact semVc_mono P _ _ _ _ hk h
  · exact semVc_mono P _ _ _ _ hs h
theorem dvVc_mono {op : BinOp} {x y : Value} {K K' : Value → Prop} (hk : ∀ v, K v → K' v) (h : dvVc op x y K) : dvVc op x y K' := by
  unfold dvVc at h ⊢
  split at h
  · rename_i k a k' b
    exact cond_mono (fun h => ⟨h.1, by
      have h2 := h.2
      cases op <;> first
        | exact hk _ h2
        | exact h2.elim⟩) id h
  · exact h.elim
theorem ixVc_mono {P : Program} {t : TypeId} {x i : Value} {K K' : Value → Prop} (hk : ∀ v, K v → K' v) (h : ixVc P t x i K) : ixVc P t x i K' := by
  unfold ixVc at h ⊢
  split at h
  · obtain ⟨h0, b, hb, h⟩ := h; exact ⟨h0, b, hb, hk _ h⟩
  · exact cond_mono id (cond_mono (cond_mono (fun h => by obtain ⟨h0, v, hv, h⟩ := h; exact ⟨h0, v, hv, hk _ h⟩) id) id) h
  · exact h.elim
theorem aggEq_mono {P : Program} {t : TypeId} {x y : Value} {K K' : Bool → Prop} {o o' : Prop} (hk : ∀ b, K b → K' b) (ho : o → o') (h : aggEq P t x y K o) : aggEq P t x y K' o' := by
  unfold aggEq at h ⊢
  split at h
  · refine cond_mono id (fun h => ?_) h
    split at h
    · exact hk _ h
    · exact h.elim
  · exact ho h
theorem opQ_mono {P : Program} {o : Oper} {ρ : Operand → Value} {H : Heap} {K K' : Value → Prop} (hk : ∀ v, K v → K' v) (h : opQ P o ρ H K) : opQ P o ρ H K' := by
  unfold opQ at h ⊢
  split at h
  · split at h
    · exact ptrK_mono (fun b o h => ldTy_mono hk h) h
    · exact h.elim
  · split at h
    · exact ptrK_mono (fun b o h => hk _ h) h
    · exact h.elim
  · exact idxVc_mono hk h
  · exact slVc_mono hk h
  · exact shVc_mono hk h
  · exact shVc_mono hk h
  · exact dvVc_mono hk h
  · exact dvVc_mono hk h
  · exact ixVc_mono hk h
  · exact nilB_mono (fun b => hk _) (aggEq_mono (fun b => hk _) (qnext_mono hk)) h
  · exact nilB_mono (fun b => hk _) (aggEq_mono (fun b => hk _) (qnext_mono hk)) h
  · exact cond_mono (strK_mono fun _ => hk _) (qnext_mono hk) h
  · exact lkK_mono hk h
  · exact cond_mono (lenK_mono hk) (qnext_mono hk) h
  all_goals first | exact qnext_mono hk h | exact h.elim
theorem nextK_mono {P : Program} {K K' : Value → Heap → Prop} (hk : ∀ v H, K v H → K' v H) (x : Next) (H : Heap) (h : nextK P K x H) : nextK P K' x H := by
  cases x
  case enter f args => unfold nextK at h ⊢; exact h.mono fun v H' h => shp_mono (fun u => hk u H') h
  all_goals first | exact hk _ _ h | exact h.elim
theorem callF_mono {P : Program} {ρ : Operand → Value} {c : Call} {K K' : FuncId → List TypeId → Array Value → Prop} (hk : ∀ f t a, K f t a → K' f t a) (h : callF P ρ c K) : callF P ρ c K' := by
  unfold callF at h ⊢
  split at h
  · split at h
    · exact cond_mono (hk _ _ _) id h
    · exact h.elim
  · exact h.elim
theorem opVc_mono {P : Program} {o : Oper} {ρ : Operand → Value} {H : Heap} {K K' : Value → Heap → Prop} (hk : ∀ v H, K v H → K' v H) (h : opVc P o ρ H K) : opVc P o ρ H K' :=
  cond_mono (opQ_mono fun v => hk v H) (cond_mono (callF_mono fun _ _ _ h => h.mono fun _ H' h => shp_mono (fun u => hk u H') h) (effVc_mono hk (nextK_mono hk))) h
theorem putK_mono {n : Nat} {d : Option Nat} {v : Value} {e : Env} {K K' : Env → Prop} (hk : ∀ e', (∀ t, d ≠ some t → e'.get t = e.get t) → K e' → K' e') (h : putK n d v e K) : putK n d v e K' := by
  unfold putK at h ⊢
  cases d with
  | none => exact hk _ (fun _ _ => rfl) h
  | some d =>
    refine cond_mono (hk _ fun t ht => ?_) id h
    rw [Env.get_put, if_neg (fun hh => ht (by rw [hh]))]
theorem guardK_mono {ops : Array Oper} {o : Oper} {e : Env} {y y' n n' : Env → Prop} (hy : ∀ e', (∀ t, e'.get t = e.get t) → y e' → y' e') (hn : ∀ e', (∀ t, e'.get t = e.get t) → n e' → n' e')
    (h : guardK ops o e y n) : guardK ops o e y' n' := by
  unfold guardK at h ⊢
  split at h
  · exact hy _ (fun _ => rfl) h
  · split at h
    · exact hn _ (fun _ => rfl) h
    · rename_i d hd
      split at h
      · rename_i b hb
        have same : ∀ t, (e.put d (.bool b)).get t = e.get t := fun t => by
          rw [Env.get_put]; split
          · subst_vars; exact hb.symm
          · rfl
        cases b
        · exact (cond_mono (hn _ same) (hy _ same) : (cond _ _ _ → cond _ _ _)) h
        · exact (cond_mono (hy _ same) (hn _ same) : (cond _ _ _ → cond _ _ _)) h
      · exact hn _ (fun _ => rfl) h
      · exact h.elim

def dsts : List Oper → List Nat
  | [] => []
  | o :: r => match o.dst with
    | some d => d :: dsts r
    | none => dsts r
theorem mem_dsts {o : Oper} {r : List Oper} {t : Nat} (h : t ∉ dsts (o :: r)) : o.dst ≠ some t ∧ t ∉ dsts r := by
  simp only [dsts] at h
  cases hd : o.dst with
  | none => simp [hd] at h; exact ⟨by simp, h⟩
  | some d => simp [hd] at h; exact ⟨by intro hh; exact h.1 (by injection hh with hh; exact hh.symm), h.2⟩
theorem vcOps_frame {P : Program} {n : Nat} {ops : Array Oper} (l : List Oper) : ∀ {e : Env} {H : Heap} {K K' : Env → Heap → Prop},
    (∀ e' H', (∀ t, t ∉ dsts l → e'.get t = e.get t) → K e' H' → K' e' H') → vcOps P n ops l e H K → vcOps P n ops l e H K' := by
  induction l with
  | nil => exact fun hk h => hk _ _ (fun _ _ => rfl) h
  | cons o r ih =>
    intro e H K K' hk h
    simp only [vcOps] at h ⊢
    refine guardK_mono (fun e1 h1 h => opVc_mono (fun v H' h => putK_mono (fun e2 h2 h => ih (fun e3 H3 h3 h => hk e3 H3 (fun t ht => ?_) h) h) h) h)
      (fun e1 h1 h => putK_mono (fun e2 h2 h => ih (fun e3 H3 h3 h => hk e3 H3 (fun t ht => ?_) h) h) h) h
    · obtain ⟨a, b⟩ := mem_dsts ht; rw [h3 t b, h2 t a, h1]
    · obtain ⟨a, b⟩ := mem_dsts ht; rw [h3 t b, h2 t a, h1]

/-! ## regions that draw their order -/
def opS (P : Program) (calls : Bool) (o : Oper) (ρ : Operand → Value) (H : Heap) (K : Value → Prop) : Prop :=
  cond (calls && isCallF o.op) (callF P ρ (theCall o.op) fun f ts args => callQ P f args H fun v => shp P ts v K) (opQ P o ρ H K)
theorem opS_mono {P : Program} {c : Bool} {o : Oper} {ρ : Operand → Value} {H : Heap} {K K' : Value → Prop} (hk : ∀ v, K v → K' v) (h : opS P c o ρ H K) : opS P c o ρ H K' :=
  cond_mono (callF_mono fun _ _ _ ⟨v, h1, h2⟩ => ⟨v, h1, shp_mono hk h2⟩) (opQ_mono hk) h
def memB (l : List Nat) (t : Nat) : Bool := match l with
  | [] => false
  | x :: r => cond (Nat.beq x t) true (memB r t)
theorem memB_iff (l : List Nat) (t : Nat) : memB l t = true ↔ t ∈ l := by
  induction l with
  | nil => simp [memB]
  | cons x r ih =>
    simp only [memB, List.mem_cons]
    cases hb : Nat.beq x t with
    | true => simp [Nat.eq_of_beq_eq_true hb]
    | false =>
      simp only [cond_false, ih]
      have : ¬ t = x := by rintro rfl; simp at hb
      simp [this]
def vcM (P : Program) (n : Nat) (lc : List Nat) (ops : Array Oper) : List Oper → Nat → Env → Heap → (Env → Heap → Prop) → Prop
  | [], _, e, H, K => K e H
  | o :: r, k, e, H, K => guardK ops o e
      (fun e => cond (isQ P o.op || (isCallF o.op && !memB lc k))
        (opS P true o e.eval H fun v => putK n o.dst v e fun e' => vcM P n lc ops r (k + 1) e' H K)
        (opVc P o e.eval H fun v H' => putK n o.dst v e fun e' => vcM P n lc ops r (k + 1) e' H' K))
      (fun e => putK n o.dst undef e fun e' => vcM P n lc ops r (k + 1) e' H K)
theorem vcM_frame {P : Program} {n : Nat} {lc : List Nat} {ops : Array Oper} (l : List Oper) : ∀ {k : Nat} {e : Env} {H : Heap} {K K' : Env → Heap → Prop},
    (∀ e' H', (∀ t, t ∉ dsts l → e'.get t = e.get t) → K e' H' → K' e' H') → vcM P n lc ops l k e H K → vcM P n lc ops l k e H K' := by
  induction l with
  | nil => exact fun hk h => hk _ _ (fun _ _ => rfl) h
  | cons o r ih =>
    intro k e H K K' hk h
    simp only [vcM] at h ⊢
    refine guardK_mono (fun e1 h1 h => cond_mono (opS_mono (fun v h => putK_mono (fun e2 h2 h => ih (fun e3 H3 h3 h => hk e3 H3 (fun t ht => ?_) h) h) h))
      (opVc_mono (fun v H' h => putK_mono (fun e2 h2 h => ih (fun e3 H3 h3 h => hk e3 H3 (fun t ht => ?_) h) h) h)) h)
      (fun e1 h1 h => putK_mono (fun e2 h2 h => ih (fun e3 H3 h3 h => hk e3 H3 (fun t ht => ?_) h) h) h) h
    · obtain ⟨a, b⟩ := mem_dsts ht; rw [h3 t b, h2 t a, h1]
    · obtain ⟨a, b⟩ := mem_dsts ht; rw [h3 t b, h2 t a, h1]
    · obtain ⟨a, b⟩ := mem_dsts ht; rw [h3 t b, h2 t a, h1]
theorem isCallF_the {op : Op} (h : isCallF op = true) : op = .call (theCall op) := by
  unfold isCallF at h; split at h
  · rfl
  · simp at h
theorem opS_quiet {P : Program} {o : Oper} {n : Nat} {e : Env} {a : Act} {H : Heap} {K : Value → Prop} {w0 : World} (he : EnvOk n e a) (h : opS P true o e.eval H K) :
    ∃ v, (∀ w, (w.heap = H ∧ Agree w0 w) → o.quietAt P a (fun w' => w'.heap = H ∧ Agree w0 w') w v) ∧ K v := by
  unfold opS at h
  simp only [Bool.true_and] at h
  cases hc : isCallF o.op with
  | true =>
    rw [hc] at h
    simp only [cond_true] at h
    obtain ⟨f, ts, args, ⟨v, hk, h⟩, hr⟩ := callF_of (isCallF_the hc) (fun f => rfl) h
    refine ⟨v, fun w hw => ?_, shp_of h⟩
    unfold Oper.quietAt
    rw [he.eval, hr w]
    refine ⟨rfl, (hk w hw.1).mono ?_⟩
    rintro e w' ⟨v', rfl, ha, rfl, hh⟩
    exact ⟨rfl, hh, hw.2.trans ha⟩
  | false =>
    rw [hc] at h
    obtain ⟨v, h, hr⟩ := opQ_run h
    refine ⟨v, fun w hw => ?_, h⟩
    unfold Oper.quietAt
    rw [he.eval]
    rcases hr w hw.1 with hr | ⟨hv, hr⟩
    · rw [hr]; exact ⟨rfl, rfl⟩
    · rw [hr]; exact ⟨rfl, hv⟩
def labOf (P : Program) (lc : List Nat) (ops : Array Oper) (k : Nat) : Bool :=
  match ops[k]? with
  | some o => isQ P o.op || (isCallF o.op && !memB lc k)
  | none => true
theorem vcM_mix {P : Program} {n : Nat} {lc : List Nat} {ops : Array Oper} {w0 : World} {Q : Exit → Act → World → Prop} {K : Env → Heap → Prop}
    (hK : ∀ e a w, EnvOk n e a → Agree w0 w → K e w.heap → Q .normal a w) (l : List Oper) :
    ∀ (k : Nat) (e : Env) (a : Act) (H : Heap), (∀ j, l[j]? = ops[k + j]?) → EnvOk n e a → vcM P n lc ops l k e H K → mixW P ops (labOf P lc ops) w0 Q l k H a := by
  induction l with
  | nil => exact fun k e a H _ he h w hw => hK e a w he hw.2 (by rw [hw.1]; exact h)
  | cons o r ih =>
    intro k e a H hl he h
    have h0 : ops[k]? = some o := by simpa using (hl 0).symm
    have hl' : ∀ j, r[j]? = ops[k + 1 + j]? := fun j => by have := hl (j + 1); simpa [Nat.add_assoc, Nat.add_comm 1 j] using this
    simp only [vcM] at h
    obtain ⟨e', he', h | h⟩ := guardK_of he h
    · obtain ⟨hw, h⟩ := h
      simp only [mixW, hw, if_true]
      have hlab : labOf P lc ops k = (isQ P o.op || (isCallF o.op && !memB lc k)) := by simp only [labOf, h0]
      cases hq : (isQ P o.op || (isCallF o.op && !memB lc k)) with
      | true =>
        rw [hq] at h hlab
        rw [if_pos hlab]
        obtain ⟨v, hv, hk⟩ := opS_quiet (w0 := w0) he' h
        obtain ⟨e2, he2, hk⟩ := putK_of he' hk
        exact ⟨v, hv, ih (k + 1) e2 _ H hl' he2 hk⟩
      | false =>
        rw [hq] at h hlab
        rw [if_neg (by rw [hlab]; simp)]
        intro w hw'
        refine opVc_wp (K := fun v H' => putK n o.dst v e' fun e' => vcM P n lc ops r (k + 1) e' H' K) (w0 := w0) he' hw'.1 hw'.2 h fun v w' ha hk => ?_
        obtain ⟨e2, he2, hk⟩ := putK_of he' hk
        exact ⟨ha, ih (k + 1) e2 _ _ hl' he2 hk⟩
    · obtain ⟨hw, h⟩ := h
      simp only [mixW, hw, Bool.false_eq_true, if_false]
      obtain ⟨e2, he2, hk⟩ := putK_of he' h
      exact ih (k + 1) e2 _ H hl' he2 hk
def mixB (P : Program) (lc : List Nat) (ops : Array Oper) : Bool := Region.noSelect ops && mixFrom .any ops (labOf P lc ops) ops.size 0 (Array.replicate ops.size false)
def drawVc (P : Program) (n : Nat) (lc : List Nat) (ops : Array Oper) (e : Env) (H : Heap) (K : Env → Heap → Prop) : Prop :=
  cond (P.follows .mixedOrders && mixB P lc ops) (vcM P n lc ops ops.toList 0 e H K) False
theorem drawVc_wp {P : Program} {n : Nat} {lc : List Nat} {ops : Array Oper} {id : Nat} {Q : Exit → Act → World → Prop} {w0 : World} {K : Env → Heap → Prop}
    (hK : ∀ e a w, EnvOk n e a → Agree w0 w → K e w.heap → Q .normal a w) {e : Env} {a : Act} {w : World} (he : EnvOk n e a) (h0 : Agree w0 w)
    (h : drawVc P n lc ops e w.heap K) : (Code.region id ops true).wp P Q a w := by
  unfold drawVc at h
  cases hm : (P.follows .mixedOrders && mixB P lc ops) with
  | false => rw [hm] at h; exact h.elim
  | true =>
    rw [hm] at h
    simp only [Bool.and_eq_true, mixB] at hm
    refine wp_region_any hm.1 (wpAny_of_anyM (lab := labOf P lc ops) (w0 := w0) _ w.heap _ a _ ⟨rfl, h0.tape, h0.os, h0.output⟩ ?_)
    have := anyM_lex (P := P) (md := .any) (lab := labOf P lc ops) (w0 := w0) (Q := Q) hm.2.1 ops.toList 0 (Array.replicate ops.size false) w.heap a (by simp)
      (fun j oj _ hl => by rw [getD_replicate_false] at hl; cases hl) (by simpa using hm.2.2) (vcM_mix hK _ 0 e a _ (by simp) he h)
    simpa using this
theorem drawVc_frame {P : Program} {n : Nat} {lc : List Nat} {ops : Array Oper} {e : Env} {H : Heap} {K K' : Env → Heap → Prop}
    (hk : ∀ e' H', (∀ t, t ∉ dsts ops.toList → e'.get t = e.get t) → K e' H' → K' e' H') (h : drawVc P n lc ops e H K) : drawVc P n lc ops e H K' :=
  cond_mono (vcM_frame _ hk) id h
end Go.Vc
