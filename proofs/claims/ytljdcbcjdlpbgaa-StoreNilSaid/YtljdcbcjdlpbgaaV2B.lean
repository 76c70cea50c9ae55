/-
  Parts of a proof: see the row.
-/
import Derived.Test.YtljdcbcjdlpbgaaV2A
set_option linter.unusedVariables false
set_option linter.unusedSimpArgs false
namespace Go.V2
open Go.Vc

/-! ## operations that do not look at the heap -/
def prun {α : Type} (p : Program) : Sem α → Option α
  | .pure a => some a
  | .program k => prun p (k p)
  | .mark _ k => prun p k
  | _ => none
theorem prun_sound {α : Type} (p : Program) (s : Sem α) : ∀ (x : α), prun p s = some x → ∀ w : World, s.run p w = .ok x w := by
  induction s with
  | pure a => intro x h w; simp only [prun, Option.some.injEq] at h; subst h; rfl
  | program k ih => intro x h w; exact ih _ x h w
  | mark m k ih => intro x h w; exact ih x h w
  | _ => intro x h; simp [prun] at h
/-- what an operation hands back, without any change -/
def Run1 (P : Program) (o : Oper) (ρ : Operand → Value) (w : World) (v : Value) : Prop :=
  (execOp ρ o).run P w = .ok (.value v) w ∨ (v = undef ∧ (execOp ρ o).run P w = .ok .skip w)
theorem qnext_prun {P : Program} {o : Oper} {ρ : Operand → Value} {K : Value → Prop} (h : qnext K (prun P (execOp ρ o))) : ∃ v, K v ∧ ∀ w : World, Run1 P o ρ w v := by
  cases hq : prun P (execOp ρ o) with
  | none => rw [hq] at h; exact h.elim
  | some x =>
    rw [hq] at h
    have := prun_sound P _ x hq
    cases x <;> first
      | exact ⟨_, h, fun w => .inl (this w)⟩
      | exact ⟨_, h, fun w => .inr ⟨rfl, this w⟩⟩
      | exact h.elim
def opP (P : Program) (o : Oper) (ρ : Operand → Value) (K : Value → Prop) : Prop :=
  match o.op with
  | .nilCheck x => match ρ x with
    | .pointer p => ptrK p fun b off => K (.pointer (some ⟨b, off, none⟩))
    | _ => False
  | .indexAddr t x i => idxVc P t (ρ x) (ρ i) K
  | .slice t x lo hi mx => slVc P t (ρ x) (lo.map ρ) (hi.map ρ) (mx.map ρ) K
  | .binOp .shl _ x y _ => shVc .shl (ρ x) (ρ y) K
  | .binOp .shr _ x y _ => shVc .shr (ρ x) (ρ y) K
  | .binOp .quo _ x (.tmp y) _ => dvVc .quo (ρ x) (ρ (.tmp y)) K
  | .binOp .rem _ x (.tmp y) _ => dvVc .rem (ρ x) (ρ (.tmp y)) K
  | .index t x (.tmp i) => ixVc P t (ρ x) (ρ (.tmp i)) K
  | .binOp .eql t x y _ => nilB P t (ρ x) (ρ y) (fun b => K (.bool b)) (aggEq P t (ρ x) (ρ y) (fun b => K (.bool b)) (qnext K (prun P (execOp ρ o))))
  | .binOp .neq t x y _ => nilB P t (ρ x) (ρ y) (fun b => K (.bool !b)) (aggEq P t (ρ x) (ρ y) (fun b => K (.bool !b)) (qnext K (prun P (execOp ρ o))))
  | _ => qnext K (prun P (execOp ρ o))
def isP (P : Program) : Op → Bool
  | .convert src dst _ => (match P.underlying src, P.underlying dst with | some .string, some (.slice _) => false | some (.slice _), some (.slice _) => false | _, _ => !isStrT P src dst)
  | .nilCheck _ | .indexAddr _ _ _ | .slice _ _ _ _ _ | .binOp _ _ _ _ _ | .move _ | .assign _ | .pick _ _ _ | .unOp _ _ _ | .fieldAddr _ _ _ | .field _ _ _ | .extract _ _
  | .makeFunc _ _ _ | .makeInterface _ _ | .build _ _ | .index _ _ _ | .typeAssert _ _ _ _ => true
  | .call { callee := .builtin .len, argTypes := ts, .. } => !isMapT P ts
  | .call { callee := .builtin .cap, .. } | .call { callee := .builtin .min, .. } | .call { callee := .builtin .max, .. } => true
  | _ => false
theorem opP_run {P : Program} {o : Oper} {ρ : Operand → Value} {K : Value → Prop} (h : opP P o ρ K) : ∃ v, K v ∧ ∀ w : World, Run1 P o ρ w v := by
  unfold opP at h
  split at h
  · rename_i x ho
    split at h
    · rename_i p hp
      obtain ⟨b, off, rfl, h⟩ := ptrK_of h
      refine ⟨_, h, fun w => .inl ?_⟩
      simp [execOp, ho, hp]
    · exact h.elim
  · rename_i t x i ho
    obtain ⟨v, hk, hr⟩ := idxVc_run h
    refine ⟨v, hk, fun w => .inl ?_⟩
    simp [execOp, ho, hr w]
  · rename_i t x lo hi mx ho
    obtain ⟨v, hk, hr⟩ := slVc_run h
    refine ⟨v, hk, fun w => .inl ?_⟩
    simp [execOp, ho, hr w]
  · rename_i t x y _ ho
    unfold shVc at h
    split at h
    · rename_i k a yk b hx hy
      obtain ⟨h0, h⟩ := h
      refine ⟨_, h, fun w => .inl ?_⟩
      have : ¬ b < 0 := by omega
      simp [execOp, ho, hx, hy, eqGuard, binOp, Op.shift, this]
    · exact h.elim
  · rename_i t x y _ ho
    unfold shVc at h
    split at h
    · rename_i k a yk b hx hy
      obtain ⟨h0, h⟩ := h
      refine ⟨_, h, fun w => .inl ?_⟩
      have : ¬ b < 0 := by omega
      simp [execOp, ho, hx, hy, eqGuard, binOp, Op.shift, this]
    · exact h.elim
  · rename_i t x y _ ho
    obtain ⟨v, hk, hg, hr⟩ := dvVc_of (P := P) (t := t) h
    refine ⟨v, hk, fun w => .inl ?_⟩
    simp [execOp, ho, hg, hr w]
  · rename_i t x y _ ho
    obtain ⟨v, hk, hg, hr⟩ := dvVc_of (P := P) (t := t) h
    refine ⟨v, hk, fun w => .inl ?_⟩
    simp [execOp, ho, hg, hr w]
  · rename_i t x i ho
    obtain ⟨v, hk, hr⟩ := ixVc_of h
    refine ⟨v, hk, fun w => .inl ?_⟩
    simp [execOp, ho, hr w]
  · rename_i t x y _ ho
    rcases nilB_of h with h | ⟨b, hk, hg, h1, _⟩
    · rcases aggEq_of h with h | ⟨b, hk, hg, h1, _⟩
      · exact qnext_prun h
      · refine ⟨_, hk, fun w => .inl ?_⟩
        simp [execOp, ho, Sem.run_bind, hg, h1 w]
    · refine ⟨_, hk, fun w => .inl ?_⟩
      simp [execOp, ho, hg, h1 w]
  · rename_i t x y _ ho
    rcases nilB_of h with h | ⟨b, hk, hg, _, h1⟩
    · rcases aggEq_of h with h | ⟨b, hk, hg, _, h1⟩
      · exact qnext_prun h
      · refine ⟨_, hk, fun w => .inl ?_⟩
        simp [execOp, ho, Sem.run_bind, hg, h1 w]
    · refine ⟨_, hk, fun w => .inl ?_⟩
      simp [execOp, ho, hg, h1 w]
  · exact qnext_prun h

/-! ## operations that look at the heap -/
/-- a struct or an array, all its cells at once -/
def ldAg (n : Nat) (a : Addr) (H : Heap) (K : Array Value → Prop) : Prop := ∃ vs : Array Value, vs.size = n ∧ (∀ i v, vs[i]? = some v → hcell H (a.add i) = some v) ∧ K vs
def ldT (P : Program) (t : TypeId) (a : Addr) (H : Heap) (K : Value → Prop) : Prop :=
  cond (aggB P t) (cond (P.info? t).isSome (ldAg (P.cellsOf t) a H fun vs => K (.agg vs)) False) (cond (P.underlying t).isSome (ldK (kind1 P t) a H K) False)
theorem loadFrom_run {P : Program} {w : World} {a : Addr} : ∀ (vs : List Value) (i : Nat) (acc : Array Value), (∀ j v, vs[j]? = some v → w.cell? (a.add (i + j)) = some v) →
    (loadCellsFrom a i vs.length acc).run P w = .ok (acc ++ vs.toArray) w
  | [], i, acc, _ => by
    show Result.ok acc w = _
    simp
  | v :: r, i, acc, h => by
    have h0 := h 0 v rfl
    simp only [Nat.add_zero] at h0
    have := loadFrom_run (P := P) (w := w) (a := a) r (i + 1) (acc.push v) fun j u hj => by have := h (j + 1) u (by simpa using hj); rwa [show i + (j + 1) = i + 1 + j by omega] at this
    simp only [List.length_cons, loadCellsFrom, load, Sem.run_bind]
    simp only [Sem.run, h0, Result.andThen_ok]
    simpa using this
theorem ldT_run {P : Program} {t : TypeId} {a : Addr} {H : Heap} {K : Value → Prop} (h : ldT P t a H K) : ∃ v, K v ∧ ∀ w : World, w.heap = H → (loadVar t a).run P w = .ok v w := by
  unfold ldT at h
  cases hb : aggB P t with
  | true =>
    rw [hb] at h
    simp only [cond_true] at h
    cases hl : (P.info? t).isSome with
    | false => rw [hl] at h; exact h.elim
    | true =>
      rw [hl] at h
      obtain ⟨vs, hs, hc, hk⟩ := h
      refine ⟨_, hk, fun w hw => ?_⟩
      have hag : (isAgg t).run P w = .ok true w := by
        unfold aggB at hb
        split at hb <;> first | (rename_i h1; simp [isAgg, underlying, program, Sem.run, h1]; done) | simp at hb
      have := loadFrom_run (P := P) (w := w) (a := a) vs.toList 0 #[] fun j v hj => by
        rw [Nat.zero_add, cell_heap, hw]; exact hc j v (by simpa using hj)
      simp only [Array.length_toList] at this
      simp [loadVar, hag, sizeOf_run hl, loadCells, ← hs, this]
  | false =>
    rw [hb] at h
    simp only [cond_false] at h
    cases hl : (P.underlying t).isSome with
    | false => rw [hl] at h; exact h.elim
    | true =>
      rw [hl] at h
      obtain ⟨v, hv, hk⟩ := ldK_V h
      refine ⟨v, hk, fun w hw => ?_⟩
      have hc : w.cell? a = some v := by rw [cell_heap, hw]; exact hv
      obtain ⟨d, hd⟩ := Option.isSome_iff_exists.1 hl
      have hag : (isAgg t).run P w = .ok false w := by
        unfold aggB at hb
        rw [hd] at hb
        simp only [isAgg, underlying, program, Sem.run_bind, Sem.run, hd, Result.andThen_ok]
        cases d <;> simp_all
      simp [loadVar, hag, load, Sem.run, hc]
def isL (P : Program) : Op → Bool
  | .load _ _ | .lookup _ _ _ _ => true
  | .convert src dst _ => isStrT P src dst
  | .call { callee := .builtin .len, argTypes := ts, .. } => isMapT P ts
  | _ => false
/-- a value of the type that is looked up in a map, as it comes -/
def shU (P : Program) (t : TypeId) (v : Value) (K : Value → Prop) : Prop := cond (aggB P t) (K v) (exK (kind1 P t) fun u => v = u ∧ K u)
theorem shU_of {P : Program} {t : TypeId} {v : Value} {K : Value → Prop} (h : shU P t v K) : K v := by
  unfold shU at h
  cases hb : aggB P t with
  | true => rw [hb] at h; exact h
  | false => rw [hb] at h; simp only [cond_false] at h; obtain ⟨u, rfl, h⟩ := exK_of h; exact h
def opL (P : Program) (o : Oper) (ρ : Operand → Value) (H : Heap) (K : Value → Prop) : Prop :=
  match o.op with
  | .load t a => match ρ a with
    | .pointer p => ptrK p fun b off => ldT P t ⟨b, off, none⟩ H K
    | _ => False
  | .convert src dst x => cond (isStrT P src dst) (strK (ρ x) H fun s => K (.string s)) False
  | .lookup t m i ok => lkK P (shU P) t (ρ m) (ρ i) ok H K
  | .call { callee := .builtin .len, args := as, argTypes := ts } => cond (isMapT P ts) (lenK (as[0]?.map ρ) H K) False
  | _ => False
theorem opL_run {P : Program} {o : Oper} {ρ : Operand → Value} {H : Heap} {K : Value → Prop} (h : opL P o ρ H K) : ∃ v, K v ∧ ∀ w : World, w.heap = H → Run1 P o ρ w v := by
  unfold opL at h
  split at h
  · rename_i t a ho
    split at h
    · rename_i p hp
      obtain ⟨b, off, rfl, h⟩ := ptrK_of h
      obtain ⟨v, hk, hr⟩ := ldT_run h
      refine ⟨v, hk, fun w hw => .inl ?_⟩
      simp [execOp, ho, Instr.loadAt, hp, Instr.sureAddr, hr w hw]
    · exact h.elim
  · rename_i src dst x ho
    cases hT : isStrT P src dst with
    | true =>
      rw [hT] at h
      simp only [cond_true] at h
      obtain ⟨s, hk, hr⟩ := strK_run hT h
      refine ⟨_, hk, fun w hw => .inl ?_⟩
      simp [execOp, ho, hr w hw]
    | false => rw [hT] at h; exact h.elim
  · rename_i t m i ok ho
    obtain ⟨v, hk, hr⟩ := lkK_run (fun t v K h => shU_of h) h
    refine ⟨v, hk, fun w hw => .inl ?_⟩
    simp [execOp, ho, hr w hw]
  · rename_i as ts ho
    cases hT : isMapT P ts with
    | true =>
      rw [hT] at h
      simp only [cond_true, lenK] at h
      split at h
      · rename_i m hm
        obtain ⟨es, hk, hes⟩ := mapK_of h
        refine ⟨_, hk, fun w hw => .inl ?_⟩
        unfold isMapT at hT
        split at hT
        · rename_i t ht
          split at hT
          · rename_i kt et hu
            have h0 : (as.map ρ)[0]? = some m := by simpa using hm
            simp only [execOp, ho, resolve, Sem.run_bind]
            simp only [pure, Sem.run, Result.andThen_ok, invoke, builtin, Sem.run_bind, Builtin.len_, ht, h0, und_run hu]
            rcases hes with ⟨rfl, rfl⟩ | ⟨r, c, rfl, hr⟩
            · rfl
            · simp [getObj, Sem.run, hw, hr, goInt]
          · cases hT
        · cases hT
      · exact h.elim
    | false => rw [hT] at h; exact h.elim
  · exact h.elim

/-! ## hidden variables -/
def sizeA (sy : Bool) (m sz : Nat) (K : Prop) : Prop := cond sy (chk (m = sz) K) (cond (Nat.beq m sz) K False)
theorem sizeA_of {sy : Bool} {m sz : Nat} {K : Prop} (h : sizeA sy m sz K) : m = sz ∧ K := by
  unfold sizeA at h
  cases sy with
  | true => exact h
  | false =>
    simp only [cond_false] at h
    cases hb : Nat.beq m sz with
    | true => rw [hb] at h; exact ⟨Nat.eq_of_beq_eq_true hb, h⟩
    | false => rw [hb] at h; exact h.elim
def ltA (sy : Bool) (m sz : Nat) (K : Prop) : Prop := cond sy (chk (ltN m sz) K) (cond (Nat.blt m sz) K False)
theorem ltA_of {sy : Bool} {m sz : Nat} {K : Prop} (h : ltA sy m sz K) : m < sz ∧ K := by
  unfold ltA at h
  cases sy with
  | true => exact h
  | false =>
    simp only [cond_false] at h
    cases hb : Nat.blt m sz with
    | true => rw [hb] at h; exact ⟨Nat.blt_eq.mp hb, h⟩
    | false => rw [hb] at h; exact h.elim
def leA (sy : Bool) (m sz : Nat) (K : Prop) : Prop := cond sy (chk (leN m sz) K) (cond (Nat.ble m sz) K False)
theorem leA_of {sy : Bool} {m sz : Nat} {K : Prop} (h : leA sy m sz K) : m ≤ sz ∧ K := by
  unfold leA at h
  cases sy with
  | true => exact h
  | false =>
    simp only [cond_false] at h
    cases hb : Nat.ble m sz with
    | true => rw [hb] at h; exact ⟨Nat.le_of_ble_eq_true hb, h⟩
    | false => rw [hb] at h; exact h.elim
def nthV : List Value → Nat → Option Value
  | [], _ => none
  | v :: _, 0 => some v
  | _ :: r, n + 1 => nthV r n
theorem nthV_eq (l : List Value) : ∀ n, nthV l n = l[n]? := by
  induction l with
  | nil => intro n; rfl
  | cons v r ih => intro n; cases n with
    | zero => rfl
    | succ n => simp [nthV, ih]
def optK (o : Option Value) (K : Value → Prop) : Prop := match o with
  | some v => K v
  | none => False
def getA (sy : Bool) (kd : Kind) (cs : Array Value) (o : Nat) (K : Value → Prop) : Prop := cond sy (bxK kd cs o K) (optK (nthV cs.toList o) K)
theorem getA_of {sy : Bool} {kd : Kind} {cs : Array Value} {o : Nat} {K : Value → Prop} (h : getA sy kd cs o K) : ∃ v, cs[o]? = some v ∧ K v := by
  unfold getA at h
  cases sy with
  | true => exact bxK_of h
  | false =>
    simp only [cond_false, nthV_eq, optK] at h
    split at h
    · rename_i v hv; exact ⟨v, by simpa using hv, h⟩
    · exact h.elim
/-- names for what is done to contents that are known by name only -/
def setC (cs : Array Value) (o : Nat) (v : Value) : Array Value := cs.setIfInBounds o v
def putC (cs : Array Value) (o : Nat) (vs : Array Value) : Array Value := (putRow cs.toList o vs.toList).toArray
def extC (cs : Array Value) (o k : Nat) : Array Value := cs.extract o (o + k)
/-- a struct or an array that is known by name only -/
def agA (v : Value) (k : Nat) (K : Array Value → Prop) : Prop := ∃ cs : Array Value, v = .agg cs ∧ cs.size = k ∧ (∀ c ∈ cs.toList, flat c = true) ∧ K cs
def cutA (sy vx : Bool) (cs : Array Value) (o k sz : Nat) (K : Value → Prop) : Prop := cond (Nat.beq o 0 && Nat.beq k sz) (K (.agg cs)) (leA vx (o + k) sz (K (.agg (cond sy (extC cs o k) (cs.extract o (o + k))))))
theorem cutA_ext {sy : Bool} {cs : Array Value} {o k : Nat} : cond sy (extC cs o k) (cs.extract o (o + k)) = cs.extract o (o + k) := by cases sy <;> rfl
/-- its place among the slots -/
def baseA (A : Ann) (s : Nat) (e : Env) (K : Nat → Nat → Prop) : Prop := match asc A.bx s, e.get (kOff s) with
  | some b, .slice none o 0 => K b o
  | _, _ => False
theorem baseA_of {A : Ann} {s : Nat} {e : Env} {K : Nat → Nat → Prop} (h : baseA A s e K) : ∃ b o, asc A.bx s = some b ∧ e.get (kOff s) = goff o ∧ K b o := by
  unfold baseA at h
  split at h
  · rename_i b o h1 h2; exact ⟨b, o, h1, h2, h⟩
  · exact h.elim
def contA (A : Ann) (b : Nat) (e : Env) (K : Array Value → Nat → Prop) : Prop := match e.get (kBox b), asc A.bs b with
  | .agg cs, some sz => K cs sz
  | _, _ => False
theorem contA_of {A : Ann} {b : Nat} {e : Env} {K : Array Value → Nat → Prop} (h : contA A b e K) : ∃ cs sz, e.get (kBox b) = .agg cs ∧ asc A.bs b = some sz ∧ K cs sz := by
  unfold contA at h
  split at h
  · rename_i cs sz h1 h2; exact ⟨cs, sz, h1, h2, h⟩
  · exact h.elim
def boxLoad (P : Program) (A : Ann) (T : TypeId) (b o : Nat) (e : Env) (K : Value → Prop) : Prop :=
  contA A b e fun cs sz => cond (aggB P T) (cond (P.info? T).isSome (cutA (memB A.sy b) (memB A.vx b) cs o (P.cellsOf T) sz K) False) (cond (P.underlying T).isSome (getA (memB A.sy b) (kind1 P T) cs o K) False)
def fieldOff (P : Program) (S : TypeId) (i : Nat) (K : Nat → Prop) : Prop := match P.underlying S with
  | some (.struct fs) => (match fs[i]? with
    | some f => cond ((P.info? f.type).isSome && !Nat.beq (P.cellsOf f.type) 0) (K f.offset) False
    | none => False)
  | _ => False
def idxOff (P : Program) (sy : Bool) (S : TypeId) (i : Value) (K : Nat → Prop) : Prop := match P.underlying S, i with
  | some (.array n t), .int _ i => cond (P.info? t).isSome (cond sy (chk (0 ≤ i ∧ i < n) (K (i.toNat * P.cellsOf t))) (cond (decide (0 ≤ i) && decide (i < n)) (K (i.toNat * P.cellsOf t)) False)) False
  | _, _ => False
def isBoxOp (A : Ann) : Op → Bool
  | .load _ (.tmp s) | .fieldAddr _ (.tmp s) _ | .indexAddr _ (.tmp s) _ | .nilCheck (.tmp s) => (asc A.bx s).isSome
  | _ => false
def derA (P : Program) (A : Ann) (o : Op) (e : Env) (K : Nat → Nat → Prop) : Prop := match o with
  | .fieldAddr S (.tmp s) i => baseA A s e fun b off => fieldOff P S i fun k => K b (off + k)
  | .indexAddr S (.tmp s) i => cond (okO A i) (baseA A s e fun b off => idxOff P (memB A.vx b) S (e.eval i) fun k => K b (off + k)) False
  | .nilCheck (.tmp s) => baseA A s e K
  | _ => False
def adrK (A : Ann) (n : Nat) (d : Option Nat) (b o : Nat) (e : Env) (K : Env → Prop) : Prop := match d with
  | some t => cond (Nat.blt t n && Nat.blt t 1000000) (match asc A.bx t with
    | some b' => cond (Nat.beq b b') (contA A b e fun _ _ => K (e.put (kOff t) (goff o))) False
    | none => False) False
  | none => False
def quA (P : Program) (A : Ann) (n : Nat) (o : Oper) (e : Env) (K : Env → Prop) : Prop :=
  cond (isBoxOp A o.op) (match o.op with
    | .load T (.tmp s) => baseA A s e fun b off => boxLoad P A T b off e fun v => putA A n o.dst v e K
    | op => derA P A op e fun b off => adrK A n o.dst b off e K)
  (cond (clean A o) (opP P o e.eval fun v => putA A n o.dst v e K) False)
def storesTo (A : Ann) : Op → List Nat
  | .store _ (.tmp s) _ => (match asc A.bx s with | some b => [kBox b] | none => [])
  | _ => []
def ders : List (Nat × Nat) → Nat → List Nat
  | [], _ => []
  | (t, d) :: r, b => cond (Nat.beq d b) (kOff t :: ders r b) (ders r b)
theorem mem_ders {l : List (Nat × Nat)} {t b : Nat} (h : asc l t = some b) : kOff t ∈ ders l b := by
  induction l with
  | nil => cases h
  | cons p r ih =>
    obtain ⟨s, d⟩ := p
    simp only [asc] at h
    simp only [ders]
    cases hb : Nat.beq s t with
    | true =>
      rw [hb] at h
      have := Nat.eq_of_beq_eq_true hb
      subst this
      simp only [cond_true, Option.some.injEq] at h
      subst h
      simp
    | false =>
      rw [hb] at h
      simp only [cond_false] at h
      cases Nat.beq d b
      · exact ih h
      · exact List.mem_cons_of_mem _ (ih h)
/-- the slots that an operation may change -/
def dk (A : Ann) (o : Oper) : List Nat := (match o.dst with
  | none => []
  | some t => t :: (match asc A.bx t with
    | some b => kOff t :: cond (Nat.beq b t) (kBox b :: ders A.bx b) []
    | none => [])) ++ storesTo A o.op
theorem dst_dk {A : Ann} {o : Oper} : ∀ t ∈ dst1 o.dst, t ∈ dk A o := fun t ht => by
  unfold dst1 at ht; unfold dk
  cases hd : o.dst with
  | none => rw [hd] at ht; cases ht
  | some d => rw [hd] at ht; simp only [List.mem_singleton] at ht; subst ht; simp
section
variable {P : Program} {A : Ann} {n : Nat}
theorem fieldOff_run {S : TypeId} {i : Nat} {K : Nat → Prop} (h : fieldOff P S i K) : ∃ k, K k ∧ ∀ (b o : Nat) (w : World), (Instr.fieldAt S (.pointer (some ⟨b, o, none⟩)) i).run P w = .ok (.pointer (some ⟨b, o + k, none⟩)) w := by
  unfold fieldOff at h
  split at h
  · rename_i fs hu
    split at h
    · rename_i f hf
      cases hc : ((P.info? f.type).isSome && !Nat.beq (P.cellsOf f.type) 0) with
      | false => rw [hc] at h; exact h.elim
      | true =>
        rw [hc] at h
        simp only [Bool.and_eq_true, Bool.not_eq_true'] at hc
        refine ⟨_, h, fun b o w => ?_⟩
        have hne : ¬ P.cellsOf f.type = 0 := fun e => by rw [e] at hc; simp at hc
        simp only [Instr.fieldAt, Sem.run_bind, und_run hu, Result.andThen_ok, hf, Instr.sureAddr, fieldPlace]
        simp only [pure, Sem.run, Result.andThen_ok, Sem.run_bind, sizeOf_run hc.1, if_neg hne, add_at]
    · exact h.elim
  · exact h.elim
theorem idxOff_run {sy : Bool} {S : TypeId} {i : Value} {K : Nat → Prop} (h : idxOff P sy S i K) : ∃ k, K k ∧ ∀ (b o : Nat) (w : World), (Instr.indexAt S (.pointer (some ⟨b, o, none⟩)) i).run P w = .ok (.pointer (some ⟨b, o + k, none⟩)) w := by
  unfold idxOff at h
  split at h
  · rename_i m t k i hu
    cases hc : (P.info? t).isSome with
    | false => rw [hc] at h; exact h.elim
    | true =>
      rw [hc] at h
      simp only [cond_true] at h
      have h : (0 ≤ i ∧ i < m) ∧ K (i.toNat * P.cellsOf t) := by
        cases sy with
        | true => exact h
        | false =>
          simp only [cond_false] at h
          cases hd : (decide (0 ≤ i) && decide (i < m)) with
          | false => rw [hd] at h; exact h.elim
          | true => rw [hd] at h; simp only [Bool.and_eq_true, decide_eq_true_eq] at hd; exact ⟨hd, h⟩
      obtain ⟨⟨h0, h1⟩, h⟩ := h
      refine ⟨_, h, fun b o w => ?_⟩
      simp [Instr.indexAt, und_run hu, asIntOf, sizeOf_run hc, h0, h1, add_at, Instr.sureAddr]
  · exact h.elim
theorem part_ok {cs : Array Value} {o k : Nat} (h : o + k ≤ cs.size) : (cs.extract o (o + k)).size = k := by simp; omega
/-- a part of a hidden variable is read -/
theorem boxLoad_run {B : Nat} {T : TypeId} {s b o : Nat} {e : Env} {F : FF} {H : Heap} {a : Act} {K : Value → Prop} (hbx : BX A B e F H a) (hs : asc A.bx s = some b) (ho : e.get (kOff s) = goff o)
    (h : boxLoad P A T b o e K) : ∃ v, K v ∧ ∀ w : World, w.heap = H → (Instr.loadAt T (a.eval (.tmp s))).run P w = .ok v w := by
  obtain ⟨cs, sz, hcs, hsz, h⟩ := contA_of h
  obtain ⟨ρ, k1, _, k3⟩ := hbx
  obtain ⟨⟨U, hH⟩, _, _, _, hz⟩ := k1 b cs hcs
  have hz : sz = cs.size := by rw [hsz] at hz; injection hz
  subst hz
  have hp := k3 s b o cs hs ho hcs
  have hp' : a.eval (.tmp s) = .pointer (some ⟨ρ b, o, none⟩) := hp
  have hcell : ∀ j (w : World), w.heap = H → w.cell? ⟨ρ b, o + j, none⟩ = cs[o + j]? := fun j w hw => by
    rw [cell_heap, hw]; exact hH.cell
  rw [hp']
  cases hb : aggB P T with
  | true =>
    rw [hb] at h
    simp only [cond_true] at h
    cases hl : (P.info? T).isSome with
    | false => rw [hl] at h; exact h.elim
    | true =>
      rw [hl] at h
      simp only [cond_true] at h
      have hag : ∀ w : World, (isAgg T).run P w = .ok true w := fun w => by
        unfold aggB at hb
        split at hb <;> first | (rename_i h1; simp [isAgg, underlying, program, Sem.run, h1]; done) | simp at hb
      have key : ∀ vs : Array Value, vs.size = P.cellsOf T → (∀ j v, vs[j]? = some v → cs[o + j]? = some v) → ∀ w : World, w.heap = H → (Instr.loadAt T (.pointer (some ⟨ρ b, o, none⟩))).run P w = .ok (.agg vs) w := fun vs hv hc w hw => by
        have := loadFrom_run (P := P) (w := w) (a := ⟨ρ b, o, none⟩) vs.toList 0 #[] fun j v hj => by
          rw [add_at, Nat.zero_add, hcell _ w hw]; exact hc j v (by simpa using hj)
        simp only [Array.length_toList] at this
        simp [Instr.loadAt, Instr.sureAddr, loadVar, hag w, sizeOf_run hl, loadCells, ← hv, this]
      unfold cutA at h
      cases hz : (Nat.beq o 0 && Nat.beq (P.cellsOf T) cs.size) with
      | true =>
        rw [hz] at h
        simp only [Bool.and_eq_true] at hz
        have h0 := Nat.eq_of_beq_eq_true hz.1
        have h1 := Nat.eq_of_beq_eq_true hz.2
        subst h0
        exact ⟨_, h, key cs h1.symm fun j v hj => by rw [Nat.zero_add]; exact hj⟩
      | false =>
        rw [hz] at h
        obtain ⟨hle, h⟩ := leA_of h
        rw [cutA_ext] at h
        refine ⟨_, h, key _ (part_ok hle) fun j v hj => ?_⟩
        rw [Array.getElem?_extract] at hj
        split at hj
        · exact hj
        · cases hj
  | false =>
    rw [hb] at h
    simp only [cond_false] at h
    cases hl : (P.underlying T).isSome with
    | false => rw [hl] at h; exact h.elim
    | true =>
      rw [hl] at h
      obtain ⟨v, hv, hk⟩ := getA_of h
      refine ⟨v, hk, fun w hw => ?_⟩
      have hc := hcell 0 w hw
      rw [Nat.add_zero, hv] at hc
      obtain ⟨d, hd⟩ := Option.isSome_iff_exists.1 hl
      have hag : (isAgg T).run P w = .ok false w := by
        unfold aggB at hb
        rw [hd] at hb
        simp only [isAgg, underlying, program, Sem.run_bind, Sem.run, hd, Result.andThen_ok]
        cases d <;> simp_all
      simp [Instr.loadAt, Instr.sureAddr, loadVar, hag, load, Sem.run, hc]
/-- what a derived address is -/
theorem derA_run {o : Oper} {e : Env} {a : Act} {K : Nat → Nat → Prop} (he : EO A n e a) (h : derA P A o.op e K) :
    ∃ b off, K b off ∧ (∀ cs, e.get (kBox b) = .agg cs → ∀ ρ : Nat → Nat, (∀ t d o cs, asc A.bx t = some d → e.get (kOff t) = goff o → e.get (kBox d) = .agg cs → a.tmps.getD t undef = .pointer (some ⟨ρ d, o, none⟩)) →
      ∀ w : World, (execOp a.eval o).run P w = .ok (.value (.pointer (some ⟨ρ b, off, none⟩))) w) := by
  unfold derA at h
  split at h
  · rename_i S s i ho
    obtain ⟨b, q, h1, h2, h⟩ := baseA_of h
    obtain ⟨k, hk, hr⟩ := fieldOff_run h
    refine ⟨b, q + k, hk, fun cs hcs ρ k3 w => ?_⟩
    have hp : a.eval (.tmp s) = .pointer (some ⟨ρ b, q, none⟩) := k3 s b q cs h1 h2 hcs
    simp [execOp, ho, hp, hr]
  · rename_i S s i ho
    cases hi : okO A i with
    | false => rw [hi] at h; exact h.elim
    | true =>
      rw [hi] at h
      obtain ⟨b, q, h1, h2, h⟩ := baseA_of h
      obtain ⟨k, hk, hr⟩ := idxOff_run h
      refine ⟨b, q + k, hk, fun cs hcs ρ k3 w => ?_⟩
      have hp : a.eval (.tmp s) = .pointer (some ⟨ρ b, q, none⟩) := k3 s b q cs h1 h2 hcs
      have hi' := he.evalO hi
      simp [execOp, ho, hp, hi', hr]
  · rename_i s ho
    obtain ⟨b, q, h1, h2, h⟩ := baseA_of h
    refine ⟨b, q, h, fun cs hcs ρ k3 w => ?_⟩
    have hp : a.eval (.tmp s) = .pointer (some ⟨ρ b, q, none⟩) := k3 s b q cs h1 h2 hcs
    simp [execOp, ho, hp]
  · exact h.elim
end
end Go.V2
