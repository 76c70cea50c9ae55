/-
  The demands of operations, and that they suffice.
-/
import Derived.Test.YtljdcbcjdlpbgaaVcEq
import Derived.Laws.Pointers
import Derived.Lib.SliceRun
import Derived.WalkSpells
import Derived.Laws.BytesString
import Derived.Laws.Cells
set_option linter.unusedVariables false
set_option linter.unusedSimpArgs false
namespace Go.Vc

/-! ## frames -/
structure Env where
  l : List (Nat × Value)
  base : Nat → Value
def look : List (Nat × Value) → (Nat → Value) → Nat → Value
  | [], b, t => b t
  | (s, v) :: r, b, t => cond (Nat.beq s t) v (look r b t)
def Env.get (e : Env) (t : Nat) : Value := look e.l e.base t
def Env.put (e : Env) (t : Nat) (v : Value) : Env := ⟨(t, v) :: e.l, e.base⟩
def Env.eval (e : Env) : Operand → Value
  | .tmp t => e.get t
  | .const v => v
  | .global g => .pointer (some ⟨g, 0, none⟩)
  | .func f => .func (.func f) #[] #[]
theorem Env.get_put (e : Env) (t s : Nat) (v : Value) : (e.put t v).get s = if t = s then v else e.get s := by
  unfold Env.get Env.put
  simp only [look]
  by_cases h : t = s
  · subst h; simp
  · have : Nat.beq t s = false := by
      cases hb : Nat.beq t s with
      | false => rfl
      | true => exact absurd (Nat.eq_of_beq_eq_true hb) h
    simp [this, h]
structure EnvOk (n : Nat) (e : Env) (a : Act) : Prop where
  size : a.tmps.size = n
  get : ∀ t, e.get t = a.tmps.getD t undef
  defers : a.defers = []
theorem EnvOk.eval {n : Nat} {e : Env} {a : Act} (h : EnvOk n e a) : a.eval = e.eval := by
  funext x; cases x <;> simp [Act.eval, Env.eval, h.get]
theorem getD_set (a : Array Value) (d t : Nat) (v : Value) (hd : d < a.size) : (a.setIfInBounds d v).getD t undef = if d = t then v else a.getD t undef := by
  by_cases h : d = t
  · subst h; simp [Array.getD, hd]
  · simp only [Array.getD_eq_getD_getElem?, Array.getElem?_setIfInBounds, if_neg h]
theorem EnvOk.put {n : Nat} {e : Env} {a : Act} (h : EnvOk n e a) {d : Nat} (v : Value) (hd : Nat.blt d n = true) : EnvOk n (e.put d v) (a.put (some d) v) where
  size := by simp [Act.put, h.size]
  get t := by
    have hd' : d < n := Nat.blt_eq.mp hd
    rw [Env.get_put]
    simp only [Act.put]
    rw [getD_set _ _ _ _ (by rw [h.size]; exact hd'), h.get]
  defers := h.defers
theorem EnvOk.put_same {n : Nat} {e : Env} {a : Act} (h : EnvOk n e a) {d : Nat} {v : Value} (hv : e.get d = v) : EnvOk n (e.put d v) a where
  size := h.size
  get t := by
    rw [Env.get_put]
    split
    · subst_vars; exact h.get _
    · exact h.get t
  defers := h.defers

def putK (n : Nat) (d : Option Nat) (v : Value) (e : Env) (K : Env → Prop) : Prop :=
  match d with
  | none => K e
  | some d => cond (Nat.blt d n) (K (e.put d v)) False
theorem putK_of {n : Nat} {d : Option Nat} {v : Value} {e : Env} {K : Env → Prop} {a : Act} (he : EnvOk n e a) (h : putK n d v e K) :
    ∃ e', EnvOk n e' (a.put d v) ∧ K e' := by
  cases d with
  | none => exact ⟨e, he, h⟩
  | some d =>
    simp only [putK] at h
    cases hb : Nat.blt d n with
    | false => rw [hb] at h; exact h.elim
    | true => rw [hb] at h; exact ⟨_, he.put v hb, h⟩

/-- a way of two -/
def br (b : Bool) (x y : Prop) : Prop := cond b x y
/-- is the operation to be carried out? -/
def guardK (ops : Array Oper) (o : Oper) (e : Env) (yes no : Env → Prop) : Prop :=
  match o.guard with
  | none => yes e
  | some (j, want) => match (ops[j]?).bind (·.dst) with
    | none => no e
    | some d => match e.get d with
      | .bool b => br b (cond want (yes (e.put d (.bool true))) (no (e.put d (.bool true)))) (cond want (no (e.put d (.bool false))) (yes (e.put d (.bool false))))
      | .tuple _ => no e
      | _ => False
theorem guardK_of {n : Nat} {ops : Array Oper} {o : Oper} {e : Env} {a : Act} {yes no : Env → Prop} (he : EnvOk n e a) (h : guardK ops o e yes no) :
    ∃ e', EnvOk n e' a ∧ ((Region.wanted o (yielded ops a.tmps) = true ∧ yes e') ∨ (Region.wanted o (yielded ops a.tmps) = false ∧ no e')) := by
  unfold guardK at h
  unfold Region.wanted
  cases hg : o.guard with
  | none => simp only [hg] at h ⊢; exact ⟨e, he, .inl ⟨trivial, h⟩⟩
  | some jw =>
    obtain ⟨j, want⟩ := jw
    simp only [hg] at h ⊢
    unfold yielded
    cases hd : (ops[j]?).bind (·.dst) with
    | none =>
      simp only [hd] at h
      exact ⟨e, he, .inr ⟨by simp, h⟩⟩
    | some d =>
      simp only [hd] at h
      have hget := he.get d
      split at h
      · rename_i b hb
        have hx : a.tmps[d]? = some (.bool b) := by
          rw [hb] at hget
          cases hq : a.tmps[d]? with
          | none =>
            have hnd : a.tmps.getD d undef = undef := by simp [Array.getD_eq_getD_getElem?, hq]
            rw [hnd] at hget; simp [undef] at hget
          | some u =>
            have hnd : a.tmps.getD d undef = u := by simp [Array.getD_eq_getD_getElem?, hq]
            rw [hnd] at hget; rw [hget]
        simp only [Option.bind_some, hx]
        refine ⟨e.put d (.bool b), he.put_same hb, ?_⟩
        cases b <;> cases want <;> simp_all [br]
      · rename_i vs hb
        refine ⟨e, he, .inr ⟨?_, h⟩⟩
        simp only [Option.bind_some]
        cases hq : a.tmps[d]? with
        | none => simp
        | some u =>
          have hnd : a.tmps.getD d undef = u := by simp [Array.getD_eq_getD_getElem?, hq]
          rw [hnd, hb] at hget
          subst hget; simp
      · exact h.elim

/-! ## operations -/
def qnext (K : Value → Prop) : Option Next → Prop
  | some (.value v) => K v
  | some .skip => K undef
  | _ => False
/-- a shift by a number that is known late -/
def shVc (op : BinOp) (x y : Value) (K : Value → Prop) : Prop :=
  match x, y with
  | .int k a, .int _ b => chk (0 ≤ b) (match op with
    | .shl => K (.int k (k.wrap (a * 2 ^ (min b.toNat k.bits))))
    | .shr => K (.int k (a.fdiv (2 ^ (min b.toNat k.bits))))
    | _ => False)
  | _, _ => False
/-- a pointer, a slice, a map against nil -/
def nilB (P : Program) (t : TypeId) (x y : Value) (K : Bool → Prop) (other : Prop) : Prop :=
  match P.underlying t, x, y with
  | some (.pointer _), .pointer p, .pointer none => K p.isNone
  | some (.slice _), .slice p _ _, .slice none _ _ => K p.isNone
  | some (.map _ _), .map p, .map none => K p.isNone
  | _, _, _ => other
theorem nilB_of {P : Program} {t : TypeId} {x y : Value} {K : Bool → Prop} {other : Prop} (h : nilB P t x y K other) :
    other ∨ ∃ b, K b ∧ (∀ op u v, eqGuard op t u v x y = pure ()) ∧ (∀ w : World, (binOp .eql t x y).run P w = .ok (.bool b) w) ∧ ∀ w : World, (binOp .neq t x y).run P w = .ok (.bool !b) w := by
  have key : ∀ b, (∀ w : World, (Op.equal t x y).run P w = .ok b w) → binOp .eql t x y = (do pure (.bool (← Op.equal t x y))) → binOp .neq t x y = (do pure (.bool (!(← Op.equal t x y)))) →
      (∀ w : World, (binOp .eql t x y).run P w = .ok (.bool b) w) ∧ ∀ w : World, (binOp .neq t x y).run P w = .ok (.bool !b) w := fun b h1 h2 h3 =>
    ⟨fun w => by rw [h2]; simp only [Sem.run_bind, h1, Result.andThen_ok]; rfl, fun w => by rw [h3]; simp only [Sem.run_bind, h1, Result.andThen_ok]; rfl⟩
  unfold nilB at h
  split at h
  · rename_i u p hu
    have hu' : P.underlying t = some (.pointer (P.pointee t)) := by simp [Program.pointee, hu]
    obtain ⟨h1, h2⟩ := key _ (fun w => run_equal_pointer_nil w t p hu') (by cases p <;> rfl) (by cases p <;> rfl)
    exact .inr ⟨_, h, fun op u v => by cases op <;> rfl, h1, h2⟩
  · rename_i u p n c n' c' hu
    obtain ⟨h1, h2⟩ := key p.isNone (fun w => Lib.run_equalIn_slice_nil w 9999 t u p n c n' c' hu) rfl rfl
    exact .inr ⟨_, h, fun op u v => by cases op <;> rfl, h1, h2⟩
  · rename_i u e p hu
    obtain ⟨h1, h2⟩ := key p.isNone (fun w => run_equalIn_map_nil w 9999 t u e p hu) rfl rfl
    exact .inr ⟨_, h, fun op u v => by cases op <;> rfl, h1, h2⟩
  · exact .inl h
/-! the shape of what a call hands back -/
def exK (kd : Kind) (K : Value → Prop) : Prop :=
  match kd with
  | .int k => ∃ n : Int, K (.int k n)
  | .bool => ∃ b : Bool, K (.bool b)
  | .str => ∃ s : ByteArray, K (.string s)
  | .ptr => ∃ p : Option Addr, K (.pointer p)
  | .sl => ∃ (p : Option Addr) (n c : Nat), K (.slice p n c)
  | .map => ∃ r : Option Nat, K (.map r)
  | .any => ∃ v : Value, K v
  | .agg => False
theorem exK_of {kd : Kind} {K : Value → Prop} (h : exK kd K) : ∃ v, K v := by
  cases kd
  case agg => exact h.elim
  case sl => obtain ⟨p, n, c, h⟩ := h; exact ⟨_, h⟩
  all_goals obtain ⟨x, h⟩ := h; exact ⟨_, h⟩
theorem exK_mono {kd : Kind} {K K' : Value → Prop} (hk : ∀ v, K v → K' v) (h : exK kd K) : exK kd K' := by
  cases kd
  case agg => exact h.elim
  case sl => obtain ⟨p, n, c, h⟩ := h; exact ⟨_, _, _, hk _ h⟩
  all_goals obtain ⟨x, h⟩ := h; exact ⟨_, hk _ h⟩
def exL : List Kind → List Value → (List Value → Prop) → Prop
  | [], acc, K => K acc.reverse
  | kd :: r, acc, K => exK kd fun v => exL r (v :: acc) K
theorem exL_of (ks : List Kind) : ∀ {acc : List Value} {K : List Value → Prop}, exL ks acc K → ∃ vs, K vs := by
  induction ks with
  | nil => exact fun h => ⟨_, h⟩
  | cons k r ih => intro acc K h; obtain ⟨v, h⟩ := exK_of h; exact ih h
theorem exL_mono (ks : List Kind) : ∀ {acc : List Value} {K K' : List Value → Prop}, (∀ v, K v → K' v) → exL ks acc K → exL ks acc K' := by
  induction ks with
  | nil => exact fun hk h => hk _ h
  | cons k r ih => exact fun hk h => exK_mono (fun v h => ih hk h) h
/-- of a type -/
def exTy (P : Program) (t : TypeId) (K : Value → Prop) : Prop :=
  cond (aggB P t) (exL (kindsOf P 20 t) [] fun vs => K (.agg vs.toArray)) (exK (kind1 P t) K)
theorem exTy_of {P : Program} {t : TypeId} {K : Value → Prop} (h : exTy P t K) : ∃ v, K v := by
  unfold exTy at h
  cases hb : aggB P t with
  | true => rw [hb] at h; obtain ⟨vs, h⟩ := exL_of _ h; exact ⟨_, h⟩
  | false => rw [hb] at h; exact exK_of h
theorem exTy_mono {P : Program} {t : TypeId} {K K' : Value → Prop} (hk : ∀ v, K v → K' v) (h : exTy P t K) : exTy P t K' := by
  unfold exTy at h ⊢
  cases hb : aggB P t with
  | true => rw [hb] at h; exact exL_mono _ (fun v => hk _) h
  | false => rw [hb] at h; exact exK_mono hk h
def exTys (P : Program) : List TypeId → List Value → (List Value → Prop) → Prop
  | [], acc, K => K acc.reverse
  | t :: r, acc, K => exTy P t fun v => exTys P r (v :: acc) K
theorem exTys_of {P : Program} (ts : List TypeId) : ∀ {acc : List Value} {K : List Value → Prop}, exTys P ts acc K → ∃ vs, K vs := by
  induction ts with
  | nil => exact fun h => ⟨_, h⟩
  | cons k r ih => intro acc K h; obtain ⟨v, h⟩ := exTy_of h; exact ih h
theorem exTys_mono {P : Program} (ts : List TypeId) : ∀ {acc : List Value} {K K' : List Value → Prop}, (∀ v, K v → K' v) → exTys P ts acc K → exTys P ts acc K' := by
  induction ts with
  | nil => exact fun hk h => hk _ h
  | cons k r ih => exact fun hk h => exTy_mono (fun v h => ih hk h) h
def shp (P : Program) (ts : List TypeId) (v : Value) (K : Value → Prop) : Prop :=
  match ts with
  | [t] => exTy P t fun u => v = u ∧ K u
  | ts => exTys P ts [] fun us => v = .tuple us.toArray ∧ K (.tuple us.toArray)
theorem shp_of {P : Program} {ts : List TypeId} {v : Value} {K : Value → Prop} (h : shp P ts v K) : K v := by
  unfold shp at h
  split at h
  · obtain ⟨u, rfl, h2⟩ := exTy_of h; exact h2
  · obtain ⟨us, rfl, h2⟩ := exTys_of _ h; exact h2
theorem shp_mono {P : Program} {ts : List TypeId} {v : Value} {K K' : Value → Prop} (hk : ∀ v, K v → K' v) (h : shp P ts v K) : shp P ts v K' := by
  unfold shp at h ⊢
  split at h
  · exact exTy_mono (fun u h => ⟨h.1, hk _ h.2⟩) h
  · exact exTys_mono _ (fun u h => ⟨h.1, hk _ h.2⟩) h
/-- the entries of a map -/
def mapK (m : Value) (H : Heap) (K : Array MapEntry → Prop) : Prop :=
  match m with
  | .map none => K #[]
  | .map (some r) => ∃ es c, H[r]? = some (.map es c) ∧ K es
  | _ => False
theorem mapK_of {m : Value} {H : Heap} {K : Array MapEntry → Prop} (h : mapK m H K) : ∃ es, K es ∧ ((m = .map none ∧ es = #[]) ∨ ∃ r c, m = .map (some r) ∧ H[r]? = some (.map es c)) := by
  unfold mapK at h
  split at h
  · exact ⟨_, h, .inl ⟨rfl, rfl⟩⟩
  · obtain ⟨es, c, h1, h2⟩ := h; exact ⟨es, h2, .inr ⟨_, c, rfl, h1⟩⟩
  · exact h.elim
def isMapT (P : Program) (ts : Array TypeId) : Bool := match ts[0]? with
  | some t => (match P.underlying t with | some (.map _ _) => true | _ => false)
  | none => false
def lenK (v : Option Value) (H : Heap) (K : Value → Prop) : Prop := match v with
  | some m => mapK m H fun es => K (.int .i64 es.size)
  | none => False
/-- under a whole number: the entry's value -/
def keyIs (n : Int) (e : MapEntry) : Bool := match e.key with
  | .int _ m => n == m
  | _ => false
def mget (n : Int) (es : List MapEntry) : Option Value := (es.find? (keyIs n)).map (·.val)
def keysI (k : IntKind) (es : List MapEntry) : Prop := ∀ e ∈ es, ∃ n, e.key = .int k n
theorem findNow_int (k : IntKind) (n : Int) (es : List MapEntry) (h : keysI k es) : ∀ i, (∃ r, Instr.findNow (.int k) (.int k n) es i = some r ∧ r.map (·.2) = mget n es) := by
  induction es with
  | nil => intro i; exact ⟨none, rfl, rfl⟩
  | cons e es ih =>
    intro i
    obtain ⟨m, hm⟩ := h e (by simp)
    simp only [Instr.findNow, hm, Instr.sameNow, if_true, mget, List.find?_cons, keyIs]
    cases hb : (n == m) with
    | true => exact ⟨_, rfl, rfl⟩
    | false => exact ih (fun e he => h e (by simp [he])) (i + 1)
def zeroOf (P : Program) (t : TypeId) (K : Value → Prop) : Prop := match (P.info? t).bind (·.zero) with
  | some z => K z
  | none => False
def pairV (ok : Bool) (v : Value) (b : Bool) : Value := cond ok (.tuple #[v, .bool b]) v
/-- a look into a map under a whole number -/
def lkK (P : Program) (sh : TypeId → Value → (Value → Prop) → Prop) (t : TypeId) (m i : Value) (ok : Bool) (H : Heap) (K : Value → Prop) : Prop :=
  match P.underlying t, i with
  | some (.map kt et), .int k n => match P.underlying kt with
    | some (.int k') => cond (decide (k' = k)) (mapK m H fun es => keysI k es.toList ∧ (∀ v, mget n es.toList = some v → sh et v fun v => K (pairV ok v true)) ∧ (mget n es.toList = none → zeroOf P et fun z => K (pairV ok z false))) False
    | _ => False
  | _, _ => False
theorem zeroOf_of {P : Program} {t : TypeId} {K : Value → Prop} (h : zeroOf P t K) : ∃ z, K z ∧ ∀ w : World, (zeroValue t).run P w = .ok z w := by
  unfold zeroOf at h
  split at h
  · rename_i z hz
    obtain ⟨i, hi, hz⟩ := Option.bind_eq_some_iff.1 hz
    exact ⟨z, h, fun w => by simp [zeroValue, typeInfo, program, Sem.run, hi, hz]⟩
  · exact h.elim
theorem checkKey_int {P : Program} (b : Bool) (f : Nat) {t : TypeId} {k : IntKind} (hu : P.underlying t = some (.int k)) (v : Value) (w : World) : (Instr.checkKey b (f + 1) t v).run P w = .ok () w := by
  unfold Instr.checkKey
  simp only [Sem.run_bind, und_run hu, Result.andThen_ok]
  rfl
theorem lkK_run {P : Program} {sh : TypeId → Value → (Value → Prop) → Prop} (hsh : ∀ t v K, sh t v K → K v) {t : TypeId} {m i : Value} {ok : Bool} {H : Heap} {K : Value → Prop} (h : lkK P sh t m i ok H K) :
    ∃ v, K v ∧ ∀ w : World, w.heap = H → (Instr.lookup t m i ok).run P w = .ok v w := by
  unfold lkK at h
  split at h
  · rename_i kt et k n hu
    split at h
    · rename_i k' hk
      by_cases hkk : k' = k
      · subst hkk
        simp only [decide_true, cond_true] at h
        obtain ⟨es, ⟨hks, h1, h2⟩, hm⟩ := mapK_of h
        obtain ⟨r, hr, hg⟩ := findNow_int k' n es.toList hks 0
        have hfind : ∀ w : World, (Instr.findKey kt (.int k' n) es.toList).run P w = .ok r w := fun w => by
          simp [Instr.findKey, und_run hk, hr, Sem.run]
        have hgo : ∀ w : World, w.heap = H → ∀ a, m = .map (some a) → (getObj a).run P w = .ok (.map es (match H[a]? with | some (.map _ c) => c | _ => 0)) w := fun w hw a ha => by
          rcases hm with ⟨h1, _⟩ | ⟨a', c, h1, h2⟩
          · rw [h1] at ha; cases ha
          · rw [h1] at ha; cases ha; simp [getObj, Sem.run, hw, h2]
        cases r with
        | none =>
          obtain ⟨z, hz, hzr⟩ := zeroOf_of (h2 hg.symm)
          refine ⟨_, hz, fun w hw => ?_⟩
          rcases hm with ⟨rfl, rfl⟩ | ⟨a, c, rfl, ha⟩
          · simp only [Instr.lookup, Sem.run_bind, und_run hu, Result.andThen_ok, Sem.run, pure, checkKey_int _ _ hk, hfind, hzr]
            cases ok <;> rfl
          · simp only [Instr.lookup, Sem.run_bind, und_run hu, Result.andThen_ok, hgo w hw a rfl, Sem.run, pure, checkKey_int _ _ hk, hfind, hzr]
            cases ok <;> rfl
        | some x =>
          refine ⟨_, hsh _ _ (fun v => K (pairV ok v true)) (h1 x.2 hg.symm), fun w hw => ?_⟩
          rcases hm with ⟨rfl, rfl⟩ | ⟨a, c, rfl, ha⟩
          · simp only [Instr.lookup, Sem.run_bind, und_run hu, Result.andThen_ok, Sem.run, pure, checkKey_int _ _ hk, hfind]
            cases ok <;> rfl
          · simp only [Instr.lookup, Sem.run_bind, und_run hu, Result.andThen_ok, hgo w hw a rfl, Sem.run, pure, checkKey_int _ _ hk, hfind]
            cases ok <;> rfl
      · simp only [decide_eq_false hkk, cond_false] at h
    · exact h.elim
  · exact h.elim

/-- bytes as a string -/
def rowIs (H : Heap) (p : Option Addr) (vs : List Value) : Prop := vs = [] ∨ ∃ b o, p = some ⟨b, o, none⟩ ∧ ∀ i v, vs[i]? = some v → hcell H ⟨b, o + i, none⟩ = some v
def byteV (x : UInt8) : Value := .int .u8 x.toNat
def strK (x : Value) (H : Heap) (K : ByteArray → Prop) : Prop := match x with
  | .slice p n _ => ∃ bs : List UInt8, bs.length = n ∧ rowIs H p (bs.map byteV) ∧ K ⟨bs.toArray⟩
  | _ => False
def isStrT (P : Program) (src dst : TypeId) : Bool := match P.underlying src, P.underlying dst with
  | some (.slice e), some .string => (match P.underlying e with | some (.int .u8) => true | _ => false)
  | _, _ => false
theorem strK_run {P : Program} {src dst : TypeId} {x : Value} {H : Heap} {K : ByteArray → Prop} (hT : isStrT P src dst = true) (h : strK x H K) :
    ∃ s, K s ∧ ∀ w : World, w.heap = H → (convert src dst x).run P w = .ok (.string s) w := by
  unfold isStrT at hT
  split at hT
  · rename_i e hs hd
    split at hT
    · rename_i he
      unfold strK at h
      split at h
      · rename_i p n c
        obtain ⟨bs, hl, hrow, hk⟩ := h
        refine ⟨_, hk, fun w hw => ?_⟩
        have hfold : ∀ (l : List UInt8) (acc : ByteArray), (l.map fun b => (b.toNat : Int)).foldl (fun r n => r.push (UInt8.ofNat n.toNat)) acc = ⟨acc.data ++ l.toArray⟩ := by
          intro l
          induction l with
          | nil => intro acc; simp
          | cons b l ih => intro acc; rw [List.map_cons, List.foldl_cons, ih]; simp [ByteArray.push]
        cases p with
        | none =>
          have hb : bs = [] := by
            rcases hrow with h | ⟨b, o, h, _⟩
            · simpa using h
            · cases h
          subst hb
          simp only [convert, Sem.run_bind, und_run hs, und_run hd, Result.andThen_ok, und_run he, Conv.bytesToString]
          rfl
        | some a =>
          have hload : (loadCells a n).run P w = .ok ((bs.map fun b => (b.toNat : Int)).map (Value.int .u8)).toArray w := by
            have := run_loadCells_list (P := P) w a ((bs.map fun b => (b.toNat : Int)).map (Value.int .u8)) (fun j v hj => by
              rcases hrow with h | ⟨b, o, h, hc⟩
              · have : bs = [] := by simpa using h
                subst this; simp at hj
              · cases h
                rw [add_at, cell_heap, hw]
                refine hc j v ?_
                rw [← hj]; simp only [List.getElem?_map, Option.map_map]; rfl)
            simpa [hl] using this
          have := run_bytesToString w a n c _ hload
          rw [hfold] at this
          simp only [convert, Sem.run_bind, und_run hs, und_run hd, Result.andThen_ok, und_run he]
          rw [this]; simp
      · exact h.elim
    · cases hT
  · cases hT
/-- an operation that neither writes nor draws -/
def opQ (P : Program) (o : Oper) (ρ : Operand → Value) (H : Heap) (K : Value → Prop) : Prop :=
  match o.op with
  | .load t a => match ρ a with
    | .pointer p => ptrK p fun b off => ldTy P t ⟨b, off, none⟩ H K
    | _ => False
  | .nilCheck x => match ρ x with
    | .pointer p => ptrK p fun b off => K (.pointer (some ⟨b, off, none⟩))
    | _ => False
  | .indexAddr t x i => idxVc P t (ρ x) (ρ i) K
  | .slice t x lo hi mx => slVc P t (ρ x) (lo.map ρ) (hi.map ρ) (mx.map ρ) K
  | .binOp .shl _ x y _ => shVc .shl (ρ x) (ρ y) K
  | .binOp .shr _ x y _ => shVc .shr (ρ x) (ρ y) K
  | .binOp .quo _ x (.tmp y) _ => dvVc .quo (ρ x) (ρ (.tmp y)) K
  | .binOp .rem _ x (.tmp y) _ => dvVc .rem (ρ x) (ρ (.tmp y)) K
  | .index t x (.tmp i) => ixVc P t (ρ x) (ρ (.tmp i)) K
  | .binOp .eql t x y _ => nilB P t (ρ x) (ρ y) (fun b => K (.bool b)) (aggEq P t (ρ x) (ρ y) (fun b => K (.bool b)) (qnext K (qrun P (execOp ρ o) H)))
  | .binOp .neq t x y _ => nilB P t (ρ x) (ρ y) (fun b => K (.bool !b)) (aggEq P t (ρ x) (ρ y) (fun b => K (.bool !b)) (qnext K (qrun P (execOp ρ o) H)))
  | .convert src dst x => cond (isStrT P src dst) (strK (ρ x) H fun s => K (.string s)) (qnext K (qrun P (execOp ρ o) H))
  | .lookup t m i ok => lkK P (fun t v K => shp P [t] v K) t (ρ m) (ρ i) ok H K
  | .call { callee := .builtin .len, args := as, argTypes := ts } => cond (isMapT P ts) (lenK (as[0]?.map ρ) H K) (qnext K (qrun P (execOp ρ o) H))
  | .binOp _ _ _ _ _ | .move _ | .assign _ | .pick _ _ _ | .unOp _ _ _ | .fieldAddr _ _ _ | .field _ _ _ | .extract _ _
  | .makeFunc _ _ _ | .makeInterface _ _ | .build _ _ | .index _ _ _ | .typeAssert _ _ _ _ => qnext K (qrun P (execOp ρ o) H)
  | .call { callee := .builtin .cap, .. } | .call { callee := .builtin .min, .. } | .call { callee := .builtin .max, .. } => qnext K (qrun P (execOp ρ o) H)
  | _ => False
theorem qnext_run {P : Program} {s : Sem Next} {H : Heap} {K : Value → Prop} (h : qnext K (qrun P s H)) :
    ∃ v, K v ∧ ∀ w : World, w.heap = H → s.run P w = .ok (.value v) w ∨ (v = undef ∧ s.run P w = .ok .skip w) := by
  cases hq : qrun P s H with
  | none => rw [hq] at h; exact h.elim
  | some x =>
    rw [hq] at h
    have := qrun_sound P s H x hq
    cases x <;> first
      | exact ⟨_, h, fun w hw => .inl (this w hw)⟩
      | exact ⟨_, h, fun w hw => .inr ⟨rfl, this w hw⟩⟩
      | exact h.elim
theorem opQ_run {P : Program} {o : Oper} {ρ : Operand → Value} {H : Heap} {K : Value → Prop} (h : opQ P o ρ H K) :
    ∃ v, K v ∧ ∀ w : World, w.heap = H → (execOp ρ o).run P w = .ok (.value v) w ∨ (v = undef ∧ (execOp ρ o).run P w = .ok .skip w) := by
  unfold opQ at h
  split at h
  · rename_i t a ho
    split at h
    · rename_i p hp
      obtain ⟨b, off, rfl, h⟩ := ptrK_of h
      obtain ⟨v, hk, hr⟩ := ldTy_run h
      refine ⟨v, hk, fun w hw => .inl ?_⟩
      simp [execOp, ho, Instr.loadAt, hp, Instr.sureAddr, hr w hw]
    · exact h.elim
  · rename_i x ho
    split at h
    · rename_i p hp
      obtain ⟨b, off, rfl, h⟩ := ptrK_of h
      refine ⟨_, h, fun w hw => .inl ?_⟩
      simp [execOp, ho, hp]
    · exact h.elim
  · rename_i t x i ho
    obtain ⟨v, hk, hr⟩ := idxVc_run h
    refine ⟨v, hk, fun w hw => .inl ?_⟩
    simp [execOp, ho, hr w]
  · rename_i t x lo hi mx ho
    obtain ⟨v, hk, hr⟩ := slVc_run h
    refine ⟨v, hk, fun w hw => .inl ?_⟩
    simp [execOp, ho, hr w]
  · rename_i t x y _ ho
    unfold shVc at h
    split at h
    · rename_i k a yk b hx hy
      obtain ⟨h0, h⟩ := h
      refine ⟨_, h, fun w hw => .inl ?_⟩
      have : ¬ b < 0 := by omega
      simp [execOp, ho, hx, hy, eqGuard, binOp, Op.shift, this]
    · exact h.elim
  · rename_i t x y _ ho
    unfold shVc at h
    split at h
    · rename_i k a yk b hx hy
      obtain ⟨h0, h⟩ := h
      refine ⟨_, h, fun w hw => .inl ?_⟩
      have : ¬ b < 0 := by omega
      simp [execOp, ho, hx, hy, eqGuard, binOp, Op.shift, this]
    · exact h.elim
  · rename_i t x y _ ho
    obtain ⟨v, hk, hg, hr⟩ := dvVc_of (P := P) (t := t) h
    refine ⟨v, hk, fun w hw => .inl ?_⟩
    simp [execOp, ho, hg, hr w]
  · rename_i t x y _ ho
    obtain ⟨v, hk, hg, hr⟩ := dvVc_of (P := P) (t := t) h
    refine ⟨v, hk, fun w hw => .inl ?_⟩
    simp [execOp, ho, hg, hr w]
  · rename_i t x i ho
    obtain ⟨v, hk, hr⟩ := ixVc_of h
    refine ⟨v, hk, fun w hw => .inl ?_⟩
    simp [execOp, ho, hr w]
  · rename_i t x y _ ho
    rcases nilB_of h with h | ⟨b, hk, hg, h1, _⟩
    · rcases aggEq_of h with h | ⟨b, hk, hg, h1, _⟩
      · exact qnext_run h
      · refine ⟨_, hk, fun w hw => .inl ?_⟩
        simp [execOp, ho, Sem.run_bind, hg, h1 w]
    · refine ⟨_, hk, fun w hw => .inl ?_⟩
      simp [execOp, ho, hg, h1 w]
  · rename_i t x y _ ho
    rcases nilB_of h with h | ⟨b, hk, hg, _, h1⟩
    · rcases aggEq_of h with h | ⟨b, hk, hg, _, h1⟩
      · exact qnext_run h
      · refine ⟨_, hk, fun w hw => .inl ?_⟩
        simp [execOp, ho, Sem.run_bind, hg, h1 w]
    · refine ⟨_, hk, fun w hw => .inl ?_⟩
      simp [execOp, ho, hg, h1 w]
  · rename_i src dst x ho
    cases hT : isStrT P src dst with
    | true =>
      rw [hT] at h
      simp only [cond_true] at h
      obtain ⟨s, hk, hr⟩ := strK_run hT h
      refine ⟨_, hk, fun w hw => .inl ?_⟩
      simp [execOp, ho, hr w hw]
    | false => rw [hT] at h; exact qnext_run h
  · rename_i t m i ok ho
    obtain ⟨v, hk, hr⟩ := lkK_run (fun t v K h => shp_of h) h
    refine ⟨v, hk, fun w hw => .inl ?_⟩
    simp [execOp, ho, hr w hw]
  · rename_i as ts ho
    cases hT : isMapT P ts with
    | true =>
      rw [hT] at h
      simp only [cond_true, lenK] at h
      split at h
      · rename_i m hm
        obtain ⟨es, hk, hes⟩ := mapK_of h
        refine ⟨_, hk, fun w hw => .inl ?_⟩
        unfold isMapT at hT
        split at hT
        · rename_i t ht
          split at hT
          · rename_i kt et hu
            have h0 : (as.map ρ)[0]? = some m := by simpa using hm
            simp only [execOp, ho, resolve, Sem.run_bind]
            simp only [pure, Sem.run, Result.andThen_ok, invoke, builtin, Sem.run_bind, Builtin.len_, ht, h0, und_run hu]
            rcases hes with ⟨rfl, rfl⟩ | ⟨r, c, rfl, hr⟩
            · rfl
            · simp [getObj, Sem.run, hw, hr, goInt]
          · cases hT
        · cases hT
      · exact h.elim
    | false => rw [hT] at h; exact qnext_run h
  all_goals first | exact qnext_run h | exact h.elim

def mapL (ρ : Operand → Value) : List Operand → List Value
  | [] => []
  | x :: r => ρ x :: mapL ρ r
theorem mapL_eq (ρ : Operand → Value) (a : Array Operand) : (mapL ρ a.toList).toArray = a.map ρ := by
  have : ∀ l, mapL ρ l = l.map ρ := fun l => by induction l <;> simp_all [mapL]
  rw [this, ← Array.toList_map]
def resT (P : Program) (f : FuncId) : List TypeId := match P.funcs[f]? with
  | some fn => fn.resultTypes.toList
  | none => []
def nextK (P : Program) (K : Value → Heap → Prop) : Next → Heap → Prop
  | .value v, H => K v H
  | .skip, H => K undef H
  | .enter f args, H => HC P f args H fun v H' => shp P (resT P f) v fun u => K u H'
  | _, _ => False
def callQ (P : Program) (f : FuncId) (args : Array Value) (H : Heap) (K : Value → Prop) : Prop :=
  ∃ v, HC P f args H (fun v' H' => v' = v ∧ H' = H) ∧ K v
/-- a call of a function that the text names -/
def callF (P : Program) (ρ : Operand → Value) (c : Call) (K : FuncId → List TypeId → Array Value → Prop) : Prop :=
  match c.callee with
  | .value (.func f) => match P.funcs[f]? with
    | some fn => cond (fn.body.isSome && !(fn.name == "runtime.NumGoroutine")) (K f fn.resultTypes.toList (mapL ρ c.args.toList).toArray) False
    | none => False
  | _ => False
theorem callF_of {P : Program} {o : Oper} {ρ : Operand → Value} {c : Call} {K : FuncId → List TypeId → Array Value → Prop} (ho : o.op = .call c) (hρ : ∀ f, ρ (.func f) = .func (.func f) #[] #[]) (h : callF P ρ c K) :
    ∃ f ts args, K f ts args ∧ ∀ w : World, (execOp ρ o).run P w = .ok (.enter f args) w := by
  unfold callF at h
  split at h
  · rename_i f hc
    split at h
    · rename_i fn hf
      cases hb : (fn.body.isSome && !(fn.name == "runtime.NumGoroutine")) with
      | false => rw [hb] at h; exact h.elim
      | true =>
        rw [hb] at h
        simp only [Bool.and_eq_true] at hb
        rw [mapL_eq] at h
        refine ⟨f, _, _, h, fun w => ?_⟩
        have hnb : fn.body.isNone = false := by cases hx : fn.body <;> simp_all
        have hnn : (fn.name == "runtime.NumGoroutine") = false := by simpa using hb.2
        simp only [execOp, ho, resolve, hc, hρ, Deferred.ofValue, Sem.run_bind]
        have hnn' : ¬ fn.name = "runtime.NumGoroutine" := by simpa using hnn
        have hnb' : ¬ fn.body = none := by intro hx; simp [hx] at hnb
        simp [invoke, callFunc, program, Sem.run, hf, hnb', hnn']
    · exact h.elim
  · exact h.elim

def isQ (P : Program) : Op → Bool
  | .convert src dst _ => (match P.underlying src, P.underlying dst with | some .string, some (.slice _) => false | some (.slice _), some (.slice _) => false | _, _ => true)
  | .load _ _ | .nilCheck _ | .indexAddr _ _ _ | .slice _ _ _ _ _ | .binOp _ _ _ _ _ | .move _ | .assign _ | .pick _ _ _ | .unOp _ _ _ | .fieldAddr _ _ _ | .field _ _ _ | .extract _ _
  | .makeFunc _ _ _ | .makeInterface _ _ | .build _ _ | .index _ _ _ | .typeAssert _ _ _ _ | .lookup _ _ _ _ => true
  | .call { callee := .builtin .len, .. } | .call { callee := .builtin .cap, .. } | .call { callee := .builtin .min, .. } | .call { callee := .builtin .max, .. } => true
  | _ => false
def isCallF : Op → Bool
  | .call { callee := .value (.func _), .. } => true
  | _ => false
def theCall : Op → Call
  | .call c => c
  | _ => { callee := .builtin .len, args := #[], argTypes := #[] }
/-! operations that make or write memory, each behind a name -/
def appV (P : Program) (ts : Array TypeId) (t : TypeId) (as : Array Value) (H : Heap) (K : Value → Heap → Prop) : Prop := semVc P (Builtin.append_ ts t as) H K
def cpyV (P : Program) (ts : Array TypeId) (t : TypeId) (as : Array Value) (H : Heap) (K : Value → Heap → Prop) : Prop := semVc P (Builtin.copy_ ts t as) H K
def clrV (P : Program) (ts : Array TypeId) (t : TypeId) (as : Array Value) (H : Heap) (K : Value → Heap → Prop) : Prop := semVc P (Builtin.clear_ ts t as) H K
def delV (P : Program) (ts : Array TypeId) (t : TypeId) (as : Array Value) (H : Heap) (K : Value → Heap → Prop) : Prop := semVc P (Builtin.delete_ ts t as) H K
def msV (P : Program) (t : TypeId) (l c : Value) (H : Heap) (K : Value → Heap → Prop) : Prop := semVc P (Instr.makeSlice t l c) H K
def muV (P : Program) (t : TypeId) (m k x : Value) (H : Heap) (K : Heap → Prop) : Prop := semVc P (Instr.mapUpdate t m k x) H fun _ H' => K H'
def cvV (P : Program) (s d : TypeId) (x : Value) (H : Heap) (K : Value → Heap → Prop) : Prop := semVc P (convert s d x) H K
def rgV (P : Program) (t : TypeId) (x : Value) (H : Heap) (K : Value → Heap → Prop) : Prop := semVc P (Instr.range t x) H K
def nxV (P : Program) (it : Value) (s : Bool) (t : TypeId) (H : Heap) (K : Value → Heap → Prop) : Prop := semVc P (Instr.next it s t) H K
def slV (n : Nat) (v : Value) (K : Option Addr → Nat → Nat → Prop) : Prop := ∃ p c, v = .slice p n c ∧ K p n c
def effVc (P : Program) (o : Oper) (ρ : Operand → Value) (H : Heap) (K : Value → Heap → Prop) : Prop :=
  match o.op with
  | .call { callee := .builtin .append, args := as, argTypes := ts } => appV P ts o.type (mapL ρ as.toList).toArray H fun v H' => shp P [o.type] v fun u => K u H'
  | .call { callee := .builtin .copy, args := as, argTypes := ts } => cpyV P ts o.type (mapL ρ as.toList).toArray H fun v H' => shp P [o.type] v fun u => K u H'
  | .call { callee := .builtin .clear, args := as, argTypes := ts } => clrV P ts o.type (mapL ρ as.toList).toArray H K
  | .call { callee := .builtin .delete, args := as, argTypes := ts } => delV P ts o.type (mapL ρ as.toList).toArray H K
  | .makeSlice t l c => msV P t (ρ l) (ρ c) H fun v H' => shp P [t] v fun u => K u H'
  | .mapUpdate t m k x => muV P t (ρ m) (ρ k) (ρ x) H fun H' => K undef H'
  | .convert s d x => cvV P s d (ρ x) H fun v H' => shp P [d] v fun u => K u H'
  | .range t x => rgV P t (ρ x) H fun v H' => exK .ptr fun u => v = u ∧ K u H'
  | .next it s => nxV P (ρ it) s o.type H K
  | _ => semVc P (execOp ρ o) H (nextK P K)
theorem semVc_bind {α β : Type} (p : Program) (s : Sem α) (f : α → Sem β) : ∀ (H : Heap) (K : β → Heap → Prop), semVc p s H (fun a H' => semVc p (f a) H' K) → semVc p (s >>= f) H K := by
  show ∀ (H : Heap) (K : β → Heap → Prop), _ → semVc p (s.bind f) H K
  induction s with
  | pure a => exact fun H K h => h
  | load m a k ih => rintro H K ⟨v, hv, h⟩; exact ⟨v, hv, ih v H K h⟩
  | store m a v k ih => rintro H K ⟨h1, h2, h3, h⟩; exact ⟨h1, h2, h3, fun H' e => ih _ K (h H' e)⟩
  | new o k ih => exact fun H K h r H' e1 e2 => ih _ _ K (h r H' e1 e2)
  | shape r k ih => exact fun H K h => ih _ H K h
  | freeze a n k ih => exact fun H K h => ih _ K h
  | frozen a k ih => exact fun H K h => ih _ H K h
  | getObj r k ih => rintro H K ⟨o, h1, h2, h⟩; exact ⟨o, h1, h2, ih o H K h⟩
  | setObj r o k ih => rintro H K ⟨h1, h⟩; exact ⟨h1, fun H' e => ih _ K (h H' e)⟩
  | choose q k ih =>
    intro H K h
    simp only [semVc, Sem.bind] at h ⊢
    cases hq : q.forced with
    | true => rw [hq] at h; exact ih _ H K h
    | false => rw [hq] at h; exact fun t => ih _ H K (h t)
  | sys c k => exact fun _ _ h => h.elim
  | program k ih => exact fun H K h => ih _ H K h
  | mark m k ih => exact fun H K h => ih H K h
  | halt h => exact fun _ _ h => h.elim
theorem effVc_sem {P : Program} {o : Oper} {ρ : Operand → Value} {H : Heap} {K : Value → Heap → Prop} (h : effVc P o ρ H K) : semVc P (execOp ρ o) H (nextK P K) := by
  unfold effVc at h
  have lift : ∀ {s : Sem Value}, execOp ρ o = (do pure (.value (← s))) → (∀ {K' : Value → Heap → Prop}, (∀ v H', K' v H' → K v H') → semVc P s H K' → semVc P (execOp ρ o) H (nextK P K)) := fun he K' hk hs => by
    rw [he]; exact semVc_bind _ _ _ _ _ (semVc_mono _ _ _ _ _ (fun v H' h => hk v H' h) hs)
  have blt : ∀ {b : Builtin} {as : Array Operand} {ts : Array TypeId} {s : Sem Value}, o.op = .call { callee := .builtin b, args := as, argTypes := ts } →
      (∀ cs, builtin b ts o.type cs (as.map ρ) = (do pure (.value (← s)))) → execOp ρ o = (do pure (.value (← s))) := @fun b as ts s ho hb => by
    rw [← hb (as.map fun | .const _ => true | _ => false)]
    simp only [execOp, ho, resolve]; rfl
  split at h
  · rename_i as ts ho
    rw [mapL_eq] at h
    exact lift (blt ho fun _ => rfl) (fun v H' h => shp_of h) h
  · rename_i as ts ho
    rw [mapL_eq] at h
    exact lift (blt ho fun _ => rfl) (fun v H' h => shp_of h) h
  · rename_i as ts ho
    rw [mapL_eq] at h
    exact lift (blt ho fun _ => rfl) (fun v H' h => h) h
  · rename_i as ts ho
    rw [mapL_eq] at h
    exact lift (blt ho fun _ => rfl) (fun v H' h => h) h
  · rename_i t l c ho
    exact lift (by simp only [execOp, ho]) (fun v H' h => shp_of h) h
  · rename_i t m k x ho
    have e : execOp ρ o = (do Instr.mapUpdate t (ρ m) (ρ k) (ρ x); pure .skip) := by simp only [execOp, ho]
    rw [e]; exact semVc_bind _ _ _ _ _ (semVc_mono _ _ _ _ _ (fun v H' h => h) h)
  · rename_i s d x ho
    exact lift (by simp only [execOp, ho]) (fun v H' h => shp_of h) h
  · rename_i t x ho
    exact lift (by simp only [execOp, ho]) (fun v H' h => by obtain ⟨p, rfl, h⟩ := h; exact h) h
  · rename_i it s ho
    exact lift (by simp only [execOp, ho]) (fun v H' h => h) h
  · exact h
/-- any operation -/
def opVc (P : Program) (o : Oper) (ρ : Operand → Value) (H : Heap) (K : Value → Heap → Prop) : Prop :=
  cond (isQ P o.op) (opQ P o ρ H fun v => K v H)
    (cond (isCallF o.op) (callF P ρ (theCall o.op) fun f ts args => HC P f args H fun v H' => shp P ts v fun u => K u H')
      (effVc P o ρ H K))
theorem opVc_wp {P : Program} {o : Oper} {n : Nat} {e : Env} {a : Act} {H : Heap} {K : Value → Heap → Prop} {w w0 : World} {next : Act → World → Prop} {Q : Exit → Act → World → Prop}
    (he : EnvOk n e a) (hw : w.heap = H) (h0 : Agree w0 w) (h : opVc P o e.eval H K)
    (hn : ∀ v w', Agree w0 w' → K v w'.heap → next (a.put o.dst v) w') : o.wp P a w next Q := by
  unfold Oper.wp
  rw [he.eval]
  unfold opVc at h
  cases hq : isQ P o.op with
  | true =>
    rw [hq] at h
    obtain ⟨v, hk, hr⟩ := opQ_run h
    rcases hr w hw with hr | ⟨hv, hr⟩
    · rw [hr]; exact hn _ _ h0 (by rw [hw]; exact hk)
    · rw [hr]; subst hv; exact hn _ _ h0 (by rw [hw]; exact hk)
  | false =>
    rw [hq] at h
    simp only [cond_false] at h
    cases hc : isCallF o.op with
    | true =>
      rw [hc] at h
      have ho : o.op = .call (theCall o.op) := by
        unfold isCallF at hc
        split at hc
        · rename_i ho; rw [ho]; rfl
        · simp at hc
      simp only [cond_true] at h
      obtain ⟨f, ts, args, hk, hr⟩ := callF_of ho (fun f => rfl) h
      rw [hr w]
      refine (hk w hw).mono fun e w' hh => ?_
      obtain ⟨v, rfl, ha, hk⟩ := hh
      exact hn v w' (h0.trans ha) (shp_of hk)
    | false =>
      rw [hc] at h
      simp only [cond_false] at h
      have h := effVc_sem h
      rw [← hw] at h
      obtain ⟨x, w', hr, ha, hk⟩ := semVc_sound P _ w _ h
      rw [hr]
      cases x <;> first
        | exact hn _ _ (h0.trans ha) hk
        | exact hk.elim
        | (refine (hk w' rfl).mono fun e w'' hh => ?_
           obtain ⟨v, rfl, ha', hk⟩ := hh
           exact hn v w'' ((h0.trans ha).trans ha') (shp_of hk))

def vcOps (P : Program) (n : Nat) (ops : Array Oper) : List Oper → Env → Heap → (Env → Heap → Prop) → Prop
  | [], e, H, K => K e H
  | o :: r, e, H, K => guardK ops o e
      (fun e => opVc P o e.eval H fun v H' => putK n o.dst v e fun e' => vcOps P n ops r e' H' K)
      (fun e => putK n o.dst undef e fun e' => vcOps P n ops r e' H K)
theorem vcOps_wp {P : Program} {n : Nat} {ops : Array Oper} {Q : Exit → Act → World → Prop} {w0 : World} {K : Env → Heap → Prop}
    (hK : ∀ e a w, EnvOk n e a → Agree w0 w → K e w.heap → Q .normal a w) (l : List Oper) :
    ∀ (e : Env) (a : Act) (w : World), EnvOk n e a → Agree w0 w → vcOps P n ops l e w.heap K → wpList P ops Q l a w := by
  induction l with
  | nil => exact fun e a w he h0 h => hK e a w he h0 h
  | cons o r ih =>
    intro e a w he h0 h
    simp only [vcOps] at h
    obtain ⟨e', he', h | h⟩ := guardK_of he h
    · obtain ⟨hw, h⟩ := h
      simp only [wpList, hw, if_true]
      refine .inl (opVc_wp he' rfl h0 h fun v w' ha hk => ?_)
      obtain ⟨e2, he2, hk⟩ := putK_of he' hk
      exact ih e2 _ w' he2 ha hk
    · obtain ⟨hw, h⟩ := h
      simp only [wpList, hw, Bool.false_eq_true, if_false]
      obtain ⟨e2, he2, hk⟩ := putK_of he' h
      exact ih e2 _ w he2 h0 hk
end Go.Vc
