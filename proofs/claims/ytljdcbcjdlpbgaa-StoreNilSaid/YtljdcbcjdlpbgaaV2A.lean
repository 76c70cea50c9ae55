/-
  Parts of a proof: see the row.
-/
import Derived.Test.YtljdcbcjdlpbgaaVcByte
set_option linter.unusedVariables false
set_option linter.unusedSimpArgs false
namespace Go.V2
open Go.Vc

/-! ## what may be written, and what is not looked at -/
/-- w: blocks that may be written; x: these and hidden ones -/
structure FF where
  w : Nat → Prop
  x : Nat → Prop
structure WF (F : FF) (H : Heap) : Prop where
  lt : ∀ k, F.x k → k < H.size
  sub : ∀ k, F.w k → F.x k
/-- but for w's blocks nothing that there was has changed -/
structure Xt (F : FF) (H : Heap) (F' : FF) (H' : Heap) : Prop where
  size : H.size ≤ H'.size
  out : ∀ k, k < H.size → ¬ F.w k → H'[k]? = H[k]?
  wfp : ∀ k, F'.w k → F.w k ∨ H.size ≤ k
  xin : ∀ k, F.x k → F'.x k
  xfp : ∀ k, F'.x k → F.x k ∨ H.size ≤ k
/-- a step among hidden variables -/
structure Sto (F : FF) (H : Heap) (F' : FF) (H' : Heap) : Prop where
  size : H.size ≤ H'.size
  out : ∀ k, k < H.size → (F.w k ∨ ¬ F.x k) → H'[k]? = H[k]?
  w : F'.w = F.w
  xin : ∀ k, F.x k → F'.x k
  xfp : ∀ k, F'.x k → F.x k ∨ H.size ≤ k
/-- what may not be written is as it was -/
structure Im (F : FF) (H : Heap) (F' : FF) (H' : Heap) : Prop where
  size : H.size ≤ H'.size
  out : ∀ k, k < H.size → ¬ F.x k → H'[k]? = H[k]?
  wfp : ∀ k, F'.w k → F.w k ∨ H.size ≤ k
  xin : ∀ k, F.x k → F'.x k
  xfp : ∀ k, F'.x k → F.x k ∨ H.size ≤ k
theorem Xt.refl (F : FF) (H : Heap) : Xt F H F H := ⟨Nat.le_refl _, fun _ _ _ => rfl, fun _ h => .inl h, fun _ h => h, fun _ h => .inl h⟩
theorem Sto.refl (F : FF) (H : Heap) : Sto F H F H := ⟨Nat.le_refl _, fun _ _ _ => rfl, rfl, fun _ h => h, fun _ h => .inl h⟩
theorem Im.refl (F : FF) (H : Heap) : Im F H F H := ⟨Nat.le_refl _, fun _ _ _ => rfl, fun _ h => .inl h, fun _ h => h, fun _ h => .inl h⟩
theorem Xt.trans {F G K : FF} {H I J : Heap} (h : Xt F H G I) (k : Xt G I K J) : Xt F H K J where
  size := Nat.le_trans h.size k.size
  out i hi hn := (k.out i (Nat.lt_of_lt_of_le hi h.size) fun hc => (h.wfp i hc).elim hn fun h2 => by omega).trans (h.out i hi hn)
  wfp i hi := (k.wfp i hi).elim (fun h2 => h.wfp i h2) fun h2 => .inr (Nat.le_trans h.size h2)
  xin i hi := k.xin i (h.xin i hi)
  xfp i hi := (k.xfp i hi).elim (fun h2 => h.xfp i h2) fun h2 => .inr (Nat.le_trans h.size h2)
theorem Im.trans {F G K : FF} {H I J : Heap} (h : Im F H G I) (k : Im G I K J) : Im F H K J where
  size := Nat.le_trans h.size k.size
  out i hi hn := (k.out i (Nat.lt_of_lt_of_le hi h.size) fun hc => (h.xfp i hc).elim hn fun h2 => by omega).trans (h.out i hi hn)
  wfp i hi := (k.wfp i hi).elim (fun h2 => h.wfp i h2) fun h2 => .inr (Nat.le_trans h.size h2)
  xin i hi := k.xin i (h.xin i hi)
  xfp i hi := (k.xfp i hi).elim (fun h2 => h.xfp i h2) fun h2 => .inr (Nat.le_trans h.size h2)
theorem Sto.trans {F G K : FF} {H I J : Heap} (h : Sto F H G I) (k : Sto G I K J) : Sto F H K J where
  size := Nat.le_trans h.size k.size
  out i hi hn := (k.out i (Nat.lt_of_lt_of_le hi h.size) (hn.imp (fun hw => by rw [h.w]; exact hw) fun hx hc => (h.xfp i hc).elim hx fun h2 => by omega)).trans (h.out i hi hn)
  w := k.w.trans h.w
  xin i hi := k.xin i (h.xin i hi)
  xfp i hi := (k.xfp i hi).elim (fun h2 => h.xfp i h2) fun h2 => .inr (Nat.le_trans h.size h2)
theorem Xt.im {F F' : FF} {H H' : Heap} (h : Xt F H F' H') (hs : ∀ k, F.w k → F.x k) : Im F H F' H' :=
  ⟨h.size, fun k hk hn => h.out k hk fun hc => hn (hs k hc), h.wfp, h.xin, h.xfp⟩
theorem Sto.im {F F' : FF} {H H' : Heap} (h : Sto F H F' H') : Im F H F' H' :=
  ⟨h.size, fun k hk hn => h.out k hk (.inr hn), fun k hk => .inl (by rw [← h.w]; exact hk), h.xin, h.xfp⟩

/-! ## values of known kinds, one behind the other -/
def FX : List Kind → Type
  | [] => FF → Heap → Prop
  | .int _ :: r => Int → FX r
  | .bool :: r => Bool → FX r
  | .str :: r => ByteArray → FX r
  | .ptr :: r => Option Addr → FX r
  | .sl :: r => Option Addr → Nat → Nat → FX r
  | .map :: r => Option Nat → FX r
  | .any :: r => Value → FX r
  | .agg :: r => Array Value → FX r
def apX : (ks : List Kind) → FX ks → List Value → FF → Heap → Prop
  | [], R, [], F, H => R F H
  | .int k :: r, R, .int j n :: l, F, H => cond (decide (j = k)) (apX r (R n) l F H) False
  | .bool :: r, R, .bool b :: l, F, H => apX r (R b) l F H
  | .str :: r, R, .string s :: l, F, H => apX r (R s) l F H
  | .ptr :: r, R, .pointer p :: l, F, H => apX r (R p) l F H
  | .sl :: r, R, .slice p n c :: l, F, H => apX r (R p n c) l F H
  | .map :: r, R, .map m :: l, F, H => apX r (R m) l F H
  | .any :: r, R, v :: l, F, H => apX r (R v) l F H
  | .agg :: r, R, .agg cs :: l, F, H => apX r (R cs) l F H
  | _, _, _, _, _ => False
def crX : (ks : List Kind) → (List Value → FF → Heap → Prop) → FX ks
  | [], K => K []
  | .int k :: r, K => fun n => crX r fun l => K (.int k n :: l)
  | .bool :: r, K => fun b => crX r fun l => K (.bool b :: l)
  | .str :: r, K => fun s => crX r fun l => K (.string s :: l)
  | .ptr :: r, K => fun p => crX r fun l => K (.pointer p :: l)
  | .sl :: r, K => fun p n c => crX r fun l => K (.slice p n c :: l)
  | .map :: r, K => fun m => crX r fun l => K (.map m :: l)
  | .any :: r, K => fun v => crX r fun l => K (v :: l)
  | .agg :: r, K => fun cs => crX r fun l => K (.agg cs :: l)
theorem apX_cr (ks : List Kind) : ∀ {K : List Value → FF → Heap → Prop} {vs : List Value} {F : FF} {H : Heap}, apX ks (crX ks K) vs F H → K vs F H := by
  induction ks with
  | nil => intro K vs F H h; cases vs with
    | nil => exact h
    | cons v l => exact h.elim
  | cons k r ih =>
    intro K vs F H h
    cases k
    case int k =>
      cases vs with
      | nil => exact h.elim
      | cons v l =>
        cases v <;> first | exact h.elim | skip
        rename_i j n
        simp only [apX] at h
        by_cases hj : j = k
        · subst hj; simp only [decide_true, cond_true] at h; exact ih (K := fun l => K (_ :: l)) h
        · simp [hj] at h
    case any => cases vs with
      | nil => exact h.elim
      | cons v l => exact ih (K := fun l => K (_ :: l)) h
    all_goals cases vs with
      | nil => exact h.elim
      | cons v l => cases v <;> first | exact h.elim | exact ih (K := fun l => K (_ :: l)) h
/-- they are of these kinds -/
theorem allK_ap (ks : List Kind) : ∀ {K : List Value → Prop} {vs : List Value} {R : FX ks} {F : FF} {H : Heap}, allK ks K → apX ks R vs F H → K vs := by
  induction ks with
  | nil => intro K vs R F H h ha; cases vs with
    | nil => exact h
    | cons v l => exact ha.elim
  | cons k r ih =>
    intro K vs R F H h ha
    cases k
    case int k =>
      cases vs with
      | nil => exact ha.elim
      | cons v l =>
        cases v <;> first | exact ha.elim | skip
        rename_i j n
        simp only [apX] at ha
        by_cases hj : j = k
        · subst hj
          simp only [decide_true, cond_true] at ha
          exact ih (K := fun l => K (_ :: l)) (h n) ha
        · simp [hj] at ha
    case any => cases vs with
      | nil => exact ha.elim
      | cons v l => exact ih (K := fun l => K (_ :: l)) (h _) ha
    case sl => cases vs with
      | nil => exact ha.elim
      | cons v l => cases v <;> first | exact ha.elim | exact ih (K := fun l => K (_ :: l)) (h _ _ _) ha
    all_goals cases vs with
      | nil => exact ha.elim
      | cons v l => cases v <;> first | exact ha.elim | exact ih (K := fun l => K (_ :: l)) (h _) ha
/-- whenever R, and T of the places, then K -/
def impX (T : FF → Heap → Prop) : (ks : List Kind) → FX ks → FX ks → Prop
  | [], R, K => ∀ F H, T F H → R F H → K F H
  | .int _ :: r, R, K => ∀ n, impX T r (R n) (K n)
  | .bool :: r, R, K => ∀ b, impX T r (R b) (K b)
  | .str :: r, R, K => ∀ s, impX T r (R s) (K s)
  | .ptr :: r, R, K => ∀ p, impX T r (R p) (K p)
  | .sl :: r, R, K => ∀ p n c, impX T r (R p n c) (K p n c)
  | .map :: r, R, K => ∀ m, impX T r (R m) (K m)
  | .any :: r, R, K => ∀ v, impX T r (R v) (K v)
  | .agg :: r, R, K => ∀ v, impX T r (R v) (K v)
theorem impX_ap {T : FF → Heap → Prop} (ks : List Kind) : ∀ {R K : FX ks} {vs : List Value} {F : FF} {H : Heap}, impX T ks R K → T F H → apX ks R vs F H → apX ks K vs F H := by
  induction ks with
  | nil => intro R K vs F H h ht ha; cases vs with
    | nil => exact h F H ht ha
    | cons v l => exact ha.elim
  | cons k r ih =>
    intro R K vs F H h ht ha
    cases k
    case int k =>
      cases vs with
      | nil => exact ha.elim
      | cons v l =>
        cases v <;> first | exact ha.elim | skip
        rename_i j n
        simp only [apX] at ha ⊢
        by_cases hj : j = k
        · subst hj
          simp only [decide_true, cond_true] at ha ⊢
          exact ih (h n) ht ha
        · simp [hj] at ha
    case any => cases vs with
      | nil => exact ha.elim
      | cons v l => exact ih (h _) ht ha
    case sl => cases vs with
      | nil => exact ha.elim
      | cons v l => cases v <;> first | exact ha.elim | exact ih (h _ _ _) ht ha
    all_goals cases vs with
      | nil => exact ha.elim
      | cons v l => cases v <;> first | exact ha.elim | exact ih (h _) ht ha

def tupW : List Value → Value
  | [v] => v
  | vs => .tuple vs.toArray
/-- **a call**: it hands back values of these kinds, and writes only what it may -/
def HX (P : Program) (f : FuncId) (ks : List Kind) (args : Array Value) (F : FF) (H : Heap) (R : FX ks) : Prop :=
  WF F H → HC P f args H fun v H' => ∃ vs F', v = tupW vs ∧ Xt F H F' H' ∧ WF F' H' ∧ apX ks R vs F' H'
theorem HX.mono {P : Program} {f : FuncId} {ks : List Kind} {args : Array Value} {F : FF} {H : Heap} {R K : FX ks} (h : HX P f ks args F H R)
    (hk : impX (fun F' H' => Xt F H F' H' ∧ WF F' H') ks R K) : HX P f ks args F H K := fun hw => (h hw).mono fun _ _ ⟨vs, F', e, x, w, ha⟩ => ⟨vs, F', e, x, w, impX_ap ks hk ⟨x, w⟩ ha⟩

/-! ## what hidden variables hold -/
def bxInt (k : IntKind) (cs : Array Value) (o : Nat) (K : Int → Prop) : Prop := ∃ n, cs[o]? = some (.int k n) ∧ K n
def bxBool (cs : Array Value) (o : Nat) (K : Bool → Prop) : Prop := ∃ b, cs[o]? = some (.bool b) ∧ K b
def bxStr (cs : Array Value) (o : Nat) (K : ByteArray → Prop) : Prop := ∃ s, cs[o]? = some (.string s) ∧ K s
def bxPtr (cs : Array Value) (o : Nat) (K : Option Addr → Prop) : Prop := ∃ p, cs[o]? = some (.pointer p) ∧ K p
def bxSl (cs : Array Value) (o : Nat) (K : Option Addr → Nat → Nat → Prop) : Prop := ∃ p n c, cs[o]? = some (.slice p n c) ∧ K p n c
def bxMap (cs : Array Value) (o : Nat) (K : Option Nat → Prop) : Prop := ∃ r, cs[o]? = some (.map r) ∧ K r
def bxV (cs : Array Value) (o : Nat) (K : Value → Prop) : Prop := ∃ v, cs[o]? = some v ∧ K v
def bxK (kd : Kind) (cs : Array Value) (o : Nat) (K : Value → Prop) : Prop :=
  match kd with
  | .int k => bxInt k cs o fun n => K (.int k n)
  | .bool => bxBool cs o fun b => K (.bool b)
  | .str => bxStr cs o fun s => K (.string s)
  | .ptr => bxPtr cs o fun p => K (.pointer p)
  | .sl => bxSl cs o fun p n c => K (.slice p n c)
  | .map => bxMap cs o fun r => K (.map r)
  | .any => bxV cs o K
  | .agg => False
theorem bxK_of {kd : Kind} {cs : Array Value} {o : Nat} {K : Value → Prop} (h : bxK kd cs o K) : ∃ v, cs[o]? = some v ∧ K v := by
  cases kd
  case agg => exact h.elim
  case sl => obtain ⟨p, n, c, h1, h2⟩ := h; exact ⟨_, h1, h2⟩
  all_goals obtain ⟨n, h1, h2⟩ := h; exact ⟨_, h1, h2⟩

/-- of places -/
def ltN (a b : Nat) : Prop := a < b
def leN (a b : Nat) : Prop := a ≤ b
structure Ann where
  /-- a slot that holds the address of a hidden variable, or of its part; the slot of its making -/
  bx : List (Nat × Nat) := []
  /-- a hidden variable's size -/
  bs : List (Nat × Nat) := []
  /-- hidden variables whose parts are named by what is known of them -/
  sy : List Nat := []
  /-- hidden variables of whose parts the places are not written out -/
  vx : List Nat := []
  /-- behind a block's number: the slots that its loop carries -/
  loop : Nat → List (Nat × Kind) := fun _ => []
  /-- ahead of the region of this number what is known is said anew -/
  cut : Nat → Option (List (Nat × Kind)) := fun _ => none
def asc : List (Nat × Nat) → Nat → Option Nat
  | [], _ => none
  | (k, v) :: r, t => cond (Nat.beq k t) (some v) (asc r t)
def kOff (t : Nat) : Nat := 1000000 + t
def kBox (d : Nat) : Nat := 2000000 + d
def okT (A : Ann) (t : Nat) : Bool := Nat.blt t 1000000 && (asc A.bx t).isNone
def okO (A : Ann) : Operand → Bool
  | .tmp t => okT A t
  | _ => true
def allB {α : Type} (f : α → Bool) : List α → Bool
  | [] => true
  | x :: r => f x && allB f r
theorem allB_mem {α : Type} {f : α → Bool} {l : List α} (h : allB f l = true) : ∀ x ∈ l, f x = true := by
  induction l with
  | nil => intro x hx; cases hx
  | cons y r ih =>
    simp only [allB, Bool.and_eq_true] at h
    intro x hx
    rcases List.mem_cons.1 hx with rfl | hx
    · exact h.1
    · exact ih h.2 x hx
def isSel : Op → Bool
  | .select .. => true
  | _ => false
def clean (A : Ann) (o : Oper) : Bool := !isSel o.op && allB (okO A) o.op.operands.toList
theorem okT_iff {A : Ann} {t : Nat} : okT A t = true ↔ t < 1000000 ∧ asc A.bx t = none := by
  simp [okT, Nat.blt_eq]

structure EO (A : Ann) (n : Nat) (e : Env) (a : Act) : Prop where
  size : a.tmps.size = n
  get : ∀ t, okT A t = true → e.get t = a.tmps.getD t undef
  defers : a.defers = []
theorem EO.evalO {A : Ann} {n : Nat} {e : Env} {a : Act} (h : EO A n e a) {x : Operand} (hx : okO A x = true) : a.eval x = e.eval x := by
  cases x <;> simp only [Act.eval, Env.eval]
  rw [h.get _ hx]
theorem isSel_false {o : Op} (h : isSel o = false) : ∀ cs b, o ≠ .select cs b := by
  intro cs b e; subst e; simp [isSel] at h
theorem EO.exec {A : Ann} {n : Nat} {e : Env} {a : Act} (h : EO A n e a) {o : Oper} (hc : clean A o = true) : execOp a.eval o = execOp e.eval o := by
  simp only [clean, Bool.and_eq_true, Bool.not_eq_true'] at hc
  exact execOp_congr o (isSel_false hc.1) fun x hx => h.evalO (allB_mem hc.2 x (by simpa using hx))
def Fr (W : List Nat) (e e' : Env) : Prop := ∀ t, t ∉ W → e'.get t = e.get t
theorem Fr.refl (W : List Nat) (e : Env) : Fr W e e := fun _ _ => rfl
theorem Fr.trans {W : List Nat} {a b c : Env} (h : Fr W a b) (k : Fr W b c) : Fr W a c := fun t ht => (k t ht).trans (h t ht)
theorem Fr.mono {W W' : List Nat} {a b : Env} (h : Fr W a b) (hs : ∀ t ∈ W, t ∈ W') : Fr W' a b := fun t ht => h t fun hh => ht (hs t hh)
theorem Fr.put (e : Env) {t : Nat} {v : Value} {W : List Nat} (h : t ∈ W) : Fr W e (e.put t v) := fun s hs => by
  rw [Env.get_put, if_neg (fun e => hs (by rw [← e]; exact h))]

def goff (n : Nat) : Value := .slice none n 0
theorem goff_inj {m n : Nat} (h : goff m = goff n) : m = n := by injection h
/-- where the hidden variables lie -/
def BX (A : Ann) (B : Nat) (e : Env) (F : FF) (H : Heap) (a : Act) : Prop := ∃ ρ : Nat → Nat,
  (∀ d cs, e.get (kBox d) = .agg cs → (∃ T, CellsAt H (ρ d) cs T) ∧ F.x (ρ d) ∧ ¬ F.w (ρ d) ∧ B ≤ ρ d ∧ asc A.bs d = some cs.size) ∧
  (∀ d d' cs cs', e.get (kBox d) = .agg cs → e.get (kBox d') = .agg cs' → ρ d = ρ d' → d = d') ∧
  (∀ t d o cs, asc A.bx t = some d → e.get (kOff t) = goff o → e.get (kBox d) = .agg cs → a.tmps.getD t undef = .pointer (some ⟨ρ d, o, none⟩))
structure St (A : Ann) (n : Nat) (w0 : World) (F0 : FF) (H0 : Heap) (e : Env) (F : FF) (H : Heap) (a : Act) (w : World) : Prop where
  eo : EO A n e a
  ag : Agree w0 w
  hp : w.heap = H
  xt : Xt F0 H0 F H
  wf : WF F H
  bx : BX A H0.size e F H a
/-- d: hidden variables were changed since H -/
def StD (A : Ann) (n : Nat) (w0 : World) (F0 : FF) (H0 : Heap) (e : Env) (F : FF) (d : Bool) (H : Heap) (a : Act) (w : World) : Prop :=
  if d = true then ∃ F', Sto F H F' w.heap ∧ St A n w0 F0 H0 e F' w.heap a w else St A n w0 F0 H0 e F H a w
def expo (d : Bool) (F : FF) (H : Heap) (K : FF → Heap → Prop) : Prop := cond d (∀ F' H', Sto F H F' H' → K F' H') (K F H)
section
variable {P : Program} {A : Ann} {n : Nat} {w0 : World} {F0 : FF} {H0 : Heap}
theorem StD.expo {e : Env} {F : FF} {d : Bool} {H : Heap} {a : Act} {w : World} {K : FF → Heap → Prop} (h : StD A n w0 F0 H0 e F d H a w) (hk : expo d F H K) :
    ∃ F', St A n w0 F0 H0 e F' w.heap a w ∧ K F' w.heap ∧ Im F H F' w.heap := by
  cases d with
  | true =>
    unfold StD at h
    rw [if_pos rfl] at h
    obtain ⟨F', s, h⟩ := h
    exact ⟨F', h, hk F' _ s, s.im⟩
  | false =>
    unfold StD at h
    rw [if_neg (by decide)] at h
    refine ⟨F, by rw [h.hp]; exact h, by rw [h.hp]; exact hk, by rw [h.hp]; exact Im.refl _ _⟩
/-- what the machine's state is, whatever the heap is called -/
theorem StD.st {e : Env} {F : FF} {d : Bool} {H : Heap} {a : Act} {w : World} (h : StD A n w0 F0 H0 e F d H a w) : ∃ F', St A n w0 F0 H0 e F' w.heap a w ∧ Sto F H F' w.heap := by
  unfold StD at h
  split at h
  · obtain ⟨F', s, h⟩ := h; exact ⟨F', h, s⟩
  · exact ⟨F, by rw [h.hp]; exact h, by rw [h.hp]; exact Sto.refl _ _⟩
theorem StD.clean {e : Env} {F : FF} {H : Heap} {a : Act} {w : World} (h : St A n w0 F0 H0 e F H a w) : StD A n w0 F0 H0 e F false H a w := by
  unfold StD; rw [if_neg (by decide)]; exact h
theorem StD.dirty {e : Env} {F F' : FF} {H : Heap} {a : Act} {w : World} (s : Sto F H F' w.heap) (h : St A n w0 F0 H0 e F' w.heap a w) : StD A n w0 F0 H0 e F true H a w := by
  unfold StD; rw [if_pos rfl]; exact ⟨F', s, h⟩
/-- the frame's state is of no matter to the heap -/
theorem StD.re {e e' : Env} {F : FF} {d : Bool} {H : Heap} {a a' : Act} {w : World} (h : StD A n w0 F0 H0 e F d H a w)
    (hk : ∀ F', St A n w0 F0 H0 e F' w.heap a w → EO A n e' a' ∧ BX A H0.size e' F' w.heap a') : StD A n w0 F0 H0 e' F d H a' w := by
  unfold StD at h ⊢
  split
  · rename_i hd; rw [if_pos hd] at h; obtain ⟨F', s, h⟩ := h
    obtain ⟨k1, k2⟩ := hk F' h
    exact ⟨F', s, k1, h.ag, h.hp, h.xt, h.wf, k2⟩
  · rename_i hd; rw [if_neg hd] at h
    have h' := h.hp
    obtain ⟨k1, k2⟩ := hk F (by rw [h']; exact h)
    rw [h'] at k2
    exact ⟨k1, h.ag, h.hp, h.xt, h.wf, k2⟩

/-! ## slots -/
def putA (A : Ann) (n : Nat) (d : Option Nat) (v : Value) (e : Env) (K : Env → Prop) : Prop :=
  match d with
  | none => K e
  | some d => cond (Nat.blt d n && okT A d) (K (e.put d v)) False
def dst1 (d : Option Nat) : List Nat := match d with
  | none => []
  | some d => [d]
theorem key_ne {t s : Nat} (h : t < 1000000) : t ≠ kOff s ∧ t ≠ kBox s := by unfold kOff kBox; omega
theorem putA_of {d : Option Nat} {v : Value} {e : Env} {K : Env → Prop} {a : Act} (he : EO A n e a) (h : putA A n d v e K) :
    ∃ e', EO A n e' (a.put d v) ∧ K e' ∧ Fr (dst1 d) e e' ∧ (∀ B F H, BX A B e F H a → BX A B e' F H (a.put d v)) := by
  cases d with
  | none => exact ⟨e, he, h, Fr.refl _ _, fun _ _ _ h => h⟩
  | some d =>
    simp only [putA] at h
    cases hb : (Nat.blt d n && okT A d) with
    | false => rw [hb] at h; exact h.elim
    | true =>
      rw [hb] at h
      simp only [Bool.and_eq_true] at hb
      have hd : d < a.tmps.size := by rw [he.size]; exact Nat.blt_eq.mp hb.1
      obtain ⟨h1, h2⟩ := okT_iff.1 hb.2
      refine ⟨_, ⟨by simp [Act.put, he.size], fun t ht => ?_, he.defers⟩, h, Fr.put _ (by simp [dst1]), ?_⟩
      · rw [Env.get_put]; simp only [Act.put]; rw [Go.Vc.getD_set _ _ _ _ hd, he.get t ht]
      · rintro B F H ⟨ρ, k1, k2, k3⟩
        have hne : ∀ s, (e.put d v).get (kBox s) = e.get (kBox s) := fun s => by rw [Env.get_put, if_neg (key_ne h1).2]
        refine ⟨ρ, fun s cs hs => k1 s cs (by rw [← hne]; exact hs), fun s s' cs cs' hs hs' => k2 s s' cs cs' (by rw [← hne]; exact hs) (by rw [← hne]; exact hs'), fun t s o cs ht ho hs => ?_⟩
        rw [Env.get_put, if_neg (key_ne h1).1] at ho
        rw [hne] at hs
        simp only [Act.put]
        rw [Go.Vc.getD_set _ _ _ _ hd, if_neg (by rintro rfl; rw [h2] at ht; cases ht)]
        exact k3 t s o cs ht ho hs

/-! ## the guard -/
def guardA (A : Ann) (ops : Array Oper) (o : Oper) (e : Env) (yes no : Env → Prop) : Prop :=
  match o.guard with
  | none => yes e
  | some (j, want) => match (ops[j]?).bind (·.dst) with
    | none => no e
    | some d => cond (okT A d) (match e.get d with
      | .bool b => br b (cond want (yes (e.put d (.bool true))) (no (e.put d (.bool true)))) (cond want (no (e.put d (.bool false))) (yes (e.put d (.bool false))))
      | .tuple _ => no e
      | _ => False) False
theorem put_same {e : Env} {d : Nat} {v : Value} (h : e.get d = v) : ∀ t, (e.put d v).get t = e.get t := fun t => by
  rw [Env.get_put]; split
  · subst_vars; rfl
  · rfl
theorem EO.same {e e' : Env} {a : Act} (h : EO A n e a) (hs : ∀ t, e'.get t = e.get t) : EO A n e' a := ⟨h.size, fun t ht => (hs t).trans (h.get t ht), h.defers⟩
theorem BX.same {B : Nat} {e e' : Env} {F : FF} {H : Heap} {a : Act} (h : BX A B e F H a) (hs : ∀ t, e'.get t = e.get t) : BX A B e' F H a := by
  obtain ⟨ρ, k1, k2, k3⟩ := h
  exact ⟨ρ, fun s cs => by rw [hs]; exact k1 s cs, fun s s' cs cs' => by rw [hs, hs]; exact k2 s s' cs cs', fun t s o cs => by rw [hs, hs]; exact k3 t s o cs⟩
theorem guardA_of {ops : Array Oper} {o : Oper} {e : Env} {a : Act} {yes no : Env → Prop} (he : EO A n e a) (h : guardA A ops o e yes no) :
    ∃ e', (∀ t, e'.get t = e.get t) ∧ ((Region.wanted o (yielded ops a.tmps) = true ∧ yes e') ∨ (Region.wanted o (yielded ops a.tmps) = false ∧ no e')) := by
  unfold guardA at h
  unfold Region.wanted
  cases hg : o.guard with
  | none => simp only [hg] at h ⊢; exact ⟨e, fun _ => rfl, .inl ⟨trivial, h⟩⟩
  | some jw =>
    obtain ⟨j, want⟩ := jw
    simp only [hg] at h ⊢
    unfold yielded
    cases hd : (ops[j]?).bind (·.dst) with
    | none =>
      simp only [hd] at h
      exact ⟨e, fun _ => rfl, .inr ⟨by simp, h⟩⟩
    | some d =>
      simp only [hd] at h
      cases hok : okT A d with
      | false => rw [hok] at h; exact h.elim
      | true =>
      rw [hok] at h
      simp only [cond_true] at h
      have hget := he.get d hok
      split at h
      · rename_i b hb
        have hx : a.tmps[d]? = some (.bool b) := by
          rw [hb] at hget
          cases hq : a.tmps[d]? with
          | none =>
            have hnd : a.tmps.getD d undef = undef := by simp [Array.getD_eq_getD_getElem?, hq]
            rw [hnd] at hget; simp [undef] at hget
          | some u =>
            have hnd : a.tmps.getD d undef = u := by simp [Array.getD_eq_getD_getElem?, hq]
            rw [hnd] at hget; rw [hget]
        simp only [Option.bind_some, hx]
        refine ⟨e.put d (.bool b), put_same hb, ?_⟩
        cases b <;> cases want <;> simp_all [br]
      · rename_i vs hb
        refine ⟨e, fun _ => rfl, .inr ⟨?_, h⟩⟩
        simp only [Option.bind_some]
        cases hq : a.tmps[d]? with
        | none => simp
        | some u =>
          have hnd : a.tmps.getD d undef = u := by simp [Array.getD_eq_getD_getElem?, hq]
          rw [hnd, hb] at hget
          subst hget; simp
      · exact h.elim
end
end Go.V2
