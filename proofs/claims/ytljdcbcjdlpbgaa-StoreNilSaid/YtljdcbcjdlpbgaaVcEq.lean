/-
  Parts of a proof: see the row.
-/
import Derived.Test.YtljdcbcjdlpbgaaVcOps
import Derived.Laws.StructEq
import Derived.ChangeKeysEq
set_option linter.unusedVariables false
set_option linter.unusedSimpArgs false
namespace Go.Vc

/-! ## equality of structs and arrays of plain parts -/
def partO (P : Program) (t : TypeId) (xs : List Value) (off : Nat) : Option Value :=
  cond (P.underlying t).isSome (cond (aggB P t) (cond (P.info? t).isSome (some (.agg ((xs.drop off).take (P.cellsOf t)).toArray)) none) xs[off]?) none
theorem partO_run {P : Program} {t : TypeId} {xs : Array Value} {off : Nat} {v : Value} (h : partO P t xs.toList off = some v) (w : World) : (part t xs off).run P w = .ok v w := by
  unfold partO at h
  cases hs : (P.underlying t).isSome with
  | false => rw [hs] at h; cases h
  | true =>
    obtain ⟨d, hd⟩ := Option.isSome_iff_exists.1 hs
    rw [hs] at h
    simp only [cond_true] at h
    cases hb : aggB P t with
    | true =>
      rw [hb] at h
      have hag : (isAgg t).run P w = .ok true w := by
        unfold aggB at hb
        split at hb <;> first | (rename_i h1; simp [isAgg, underlying, program, Sem.run, h1]; done) | simp at hb
      cases hi : (P.info? t).isSome with
      | false => rw [hi] at h; cases h
      | true =>
        rw [hi] at h
        simp only [cond_true, Option.some.injEq] at h
        subst h
        simp only [part, Sem.run_bind, hag, Result.andThen_ok, if_true, sizeOf_run hi, Sem.run_pure]
        congr 2
        apply Array.toList_inj.1
        simp [Array.toList_extract, List.extract, List.take_drop]
    | false =>
      rw [hb] at h
      have hag : (isAgg t).run P w = .ok false w := by
        unfold aggB at hb
        rw [hd] at hb
        simp only [isAgg, underlying, program, Sem.run_bind, Sem.run, hd, Result.andThen_ok]
        cases d <;> simp_all
      simp only [cond_false] at h
      have h' : xs[off]? = some v := by simpa using h
      simp [part, hag, h']
def andO (a : Option Bool) (b : Option Bool) : Option Bool := match a, b with
  | some a, some b => some (a && b)
  | _, _ => none
def eqL {α : Type} (f : α → Option Bool) : List α → Option Bool
  | [] => some true
  | [x] => f x
  | x :: y :: r => andO (f x) (eqL f (y :: r))
def eqV (P : Program) : Nat → TypeId → Value → Value → Option Bool
  | 0, _, _, _ => none
  | d + 1, t, x, y => match P.underlying t, x, y with
    | some .bool, .bool a, .bool b => some (a == b)
    | some (.int _), .int k a, .int k' b => cond (decide (k = k')) (some (a == b)) none
    | some .string, .string a, .string b => some (a.toList == b.toList)
    | some (.struct fs), .agg xs, .agg ys => cond (P.stoodInHeld t) none (eqL (fun f => cond (f.name == "_") none (match partO P f.type xs.toList f.offset, partO P f.type ys.toList f.offset with
      | some a, some b => eqV P d f.type a b
      | _, _ => none)) fs.toList)
    | some (.array n e), .agg xs, .agg ys => cond (P.info? e).isSome (eqL (fun i => match partO P e xs.toList (i * P.cellsOf e), partO P e ys.toList (i * P.cellsOf e) with
      | some a, some b => eqV P d e a b
      | _, _ => none) (List.range n)) none
    | _, _, _ => none
theorem eqL_cons {α : Type} {f : α → Option Bool} {x : α} {r : List α} {b : Bool} (h : eqL f (x :: r) = some b) : ∃ a c, f x = some a ∧ eqL f r = some c ∧ b = (a && c) := by
  cases r with
  | nil => exact ⟨b, true, h, rfl, by simp⟩
  | cons y r =>
    simp only [eqL, andO] at h
    split at h
    · rename_i a c ha hc; cases h; exact ⟨a, c, ha, hc, rfl⟩
    · cases h
theorem eqV_run {P : Program} : ∀ (d : Nat) (t : TypeId) (x y : Value) (b : Bool), eqV P d t x y = some b → ∀ (m : Nat), d ≤ m → ∀ w : World, (Op.equalIn m t x y).run P w = .ok b w := by
  intro d
  induction d with
  | zero => intro t x y b h; cases h
  | succ d ih =>
    intro t x y b h m hm w
    obtain ⟨m, rfl⟩ : ∃ k, m = k + 1 := ⟨m - 1, by omega⟩
    unfold eqV at h
    split at h
    · rename_i a c hu; cases h; exact run_equalIn_bool w m t a c hu
    · rename_i i k a k' c hu
      cases hk : decide (k = k') with
      | false => rw [hk] at h; cases h
      | true =>
        rw [hk] at h
        have := of_decide_eq_true hk
        subst this
        cases h; exact run_equalIn_int w m t k i a c hu
    · rename_i a c hu; cases h; exact run_equalIn_string w m t a c hu
    · rename_i fs xs ys hu
      cases hst : P.stoodInHeld t with
      | true => rw [hst] at h; cases h
      | false =>
        rw [hst] at h
        simp only [cond_false] at h
        have hf : P.fieldsOf t = fs := by simp [Program.fieldsOf, hu]
        rw [run_equalIn_struct w m t xs ys (by rw [hf]; exact hu) hst, hf]
        generalize fs.toList = l at h
        clear hf hu
        induction l generalizing b with
        | nil => cases h; rfl
        | cons f l ihl =>
          obtain ⟨a, c, ha, hc, rfl⟩ := eqL_cons h
          have hn : (f.name == "_") = false := by
            cases hq : f.name == "_" with
            | false => rfl
            | true => rw [hq] at ha; cases ha
          rw [hn] at ha
          simp only [cond_false] at ha
          split at ha
          · rename_i u v hu hv
            have hne : f.name ≠ "_" := by simpa using hn
            simp only [Op.eqFields, hne, ne_eq, not_false_eq_true, if_true, Sem.run_bind, partO_run hu, partO_run hv, Result.andThen_ok, ih _ _ _ _ ha m (by omega), Sem.run_ite]
            cases a with
            | false => simp
            | true => simpa using ihl _ hc
          · cases ha
    · rename_i n e xs ys hu
      cases hi : (P.info? e).isSome with
      | false => rw [hi] at h; cases h
      | true =>
        rw [hi] at h
        simp only [cond_true] at h
        obtain ⟨i, hi⟩ := Option.isSome_iff_exists.1 hi
        rw [run_equalIn_array w m xs ys hu hi]
        generalize List.range n = l at h
        induction l generalizing b with
        | nil => cases h; rfl
        | cons f l ihl =>
          obtain ⟨a, c, ha, hc, rfl⟩ := eqL_cons h
          split at ha
          · rename_i u v hu hv
            simp only [Op.eqItems, Sem.run_bind, partO_run hu, partO_run hv, Result.andThen_ok, ih _ _ _ _ ha m (by omega), Sem.run_ite]
            cases a with
            | false => simp
            | true => simpa using ihl _ hc
          · cases ha
    · cases h
/-- == of structs and arrays -/
def aggEq (P : Program) (t : TypeId) (x y : Value) (K : Bool → Prop) (other : Prop) : Prop :=
  match x, y with
  | .agg xs, .agg ys => cond (P.eqGuardType P.depth t) False (match eqV P 100 t (.agg xs) (.agg ys) with
    | some b => K b
    | none => False)
  | _, _ => other
theorem aggEq_of {P : Program} {t : TypeId} {x y : Value} {K : Bool → Prop} {other : Prop} (h : aggEq P t x y K other) :
    other ∨ ∃ b, K b ∧ (∀ op u v (w : World), (eqGuard op t u v x y).run P w = .ok () w) ∧ (∀ w : World, (binOp .eql t x y).run P w = .ok (.bool b) w) ∧ ∀ w : World, (binOp .neq t x y).run P w = .ok (.bool !b) w := by
  unfold aggEq at h
  split at h
  · rename_i xs ys
    cases hg : P.eqGuardType P.depth t with
    | true => rw [hg] at h; exact h.elim
    | false =>
      rw [hg] at h
      simp only [cond_false] at h
      split at h
      · rename_i b hb
        have hr := eqV_run 100 t _ _ b hb 10000 (by omega)
        refine .inr ⟨b, h, fun op u v w => run_eqGuard_agg w op t u v xs ys hg, fun w => ?_, fun w => ?_⟩
        · rw [run_eql_struct, hr]; rfl
        · rw [run_neq_struct, hr]; rfl
      · exact h.elim
  · exact .inl h

/-! ## a quotient by a number that is known late -/
def dvVc (op : BinOp) (x y : Value) (K : Value → Prop) : Prop :=
  match x, y with
  | .int k a, .int k' b => cond (decide (k = k')) (chk (b ≠ 0) (match op with
    | .quo => K (.int k (k.wrap (a.tdiv b)))
    | .rem => K (.int k (a.tmod b))
    | _ => False)) False
  | _, _ => False
theorem dvVc_of {P : Program} {op : BinOp} {t : TypeId} {x y : Value} {K : Value → Prop} (h : dvVc op x y K) :
    ∃ v, K v ∧ (∀ u z, eqGuard op t u z x y = pure ()) ∧ ∀ w : World, (binOp op t x y).run P w = .ok v w := by
  unfold dvVc at h
  split at h
  · rename_i k a k' b
    cases hk : decide (k = k') with
    | false => rw [hk] at h; exact h.elim
    | true =>
      rw [hk] at h
      have := of_decide_eq_true hk
      subst this
      obtain ⟨h0, h⟩ := h
      cases op <;> first
        | exact h.elim
        | exact ⟨_, h, fun u z => rfl, fun w => by simp [binOp, Op.intDiv, h0]⟩
  · exact h.elim

/-! ## a place within a text or an array that is no variable -/
def ixVc (P : Program) (t : TypeId) (x i : Value) (K : Value → Prop) : Prop :=
  match P.underlying t, x, i with
  | some .string, .string s, .int _ i => chk (0 ≤ i) (∃ b : UInt8, s.data.toList[i.toNat]? = some b ∧ K (.int .u8 b.toNat))
  | some (.array n e), .agg cs, .int _ i => cond (aggB P e) False (cond (P.underlying e).isSome (cond (P.info? e).isSome (chk (0 ≤ i ∧ i < n) (∃ v, cs.toList[i.toNat * P.cellsOf e]? = some v ∧ K v)) False) False)
  | _, _, _ => False
theorem ixVc_of {P : Program} {t : TypeId} {x i : Value} {K : Value → Prop} (h : ixVc P t x i K) : ∃ v, K v ∧ ∀ w : World, (Instr.index t x i).run P w = .ok v w := by
  unfold ixVc at h
  split at h
  · rename_i s k i hu
    obtain ⟨h0, b, hb, h⟩ := h
    refine ⟨_, h, fun w => ?_⟩
    have : s[i.toNat]? = some b := by
      have h1 : i.toNat < s.size := by
        rcases Nat.lt_or_ge i.toNat s.data.toList.length with hl | hl
        · simpa using hl
        · rw [List.getElem?_eq_none hl] at hb; cases hb
      rw [getElem?_pos s i.toNat h1]
      have h2 : s.data.toList[i.toNat]'(by simpa using h1) = b := by
        have := List.getElem?_eq_getElem (l := s.data.toList) (i := i.toNat) (by simpa using h1)
        rw [this] at hb; exact Option.some.inj hb
      rw [← h2]; rfl
    simp [Instr.index, asIntOf, und_run hu, h0, this]
  · rename_i n e cs k i hu
    cases hb : aggB P e with
    | true => rw [hb] at h; exact h.elim
    | false =>
      cases hs : (P.underlying e).isSome with
      | false => rw [hb, hs] at h; exact h.elim
      | true =>
        cases hi : (P.info? e).isSome with
        | false => rw [hb, hs, hi] at h; exact h.elim
        | true =>
          rw [hb, hs, hi] at h
          obtain ⟨h0, v, hv, h⟩ := h
          refine ⟨_, h, fun w => ?_⟩
          have hp : partO P e cs.toList (i.toNat * P.cellsOf e) = some v := by unfold partO; rw [hs, hb]; exact hv
          simp [Instr.index, asIntOf, und_run hu, h0, sizeOf_run hi, partO_run hp]
  · exact h.elim
end Go.Vc
