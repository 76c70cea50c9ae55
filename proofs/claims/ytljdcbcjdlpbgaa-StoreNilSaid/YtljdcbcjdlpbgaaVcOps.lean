/-
  The demands of loads, index and slice expressions, and that they suffice.
-/
import Derived.Test.YtljdcbcjdlpbgaaVcCore
set_option linter.unusedVariables false
set_option linter.unusedSimpArgs false
namespace Go.Vc

/-! ## quiet runs: those that neither write nor draw -/
def qrun {α : Type} (p : Program) : Sem α → Heap → Option α
  | .pure a, _ => some a
  | .load _ a k, H => match hcell H a with
    | some v => qrun p (k v) H
    | none => none
  | .shape r k, H => qrun p (k (hshape H r)) H
  | .frozen a k, H => qrun p (k (hfrozen H a)) H
  | .program k, H => qrun p (k p) H
  | .mark _ k, H => qrun p k H
  | _, _ => none
theorem qrun_sound {α : Type} (p : Program) (s : Sem α) : ∀ (H : Heap) (x : α), qrun p s H = some x → ∀ w : World, w.heap = H → s.run p w = .ok x w := by
  induction s with
  | pure a => intro H x h w _; simp only [qrun, Option.some.injEq] at h; subst h; rfl
  | load m a k ih =>
    intro H x h w hw
    simp only [qrun] at h
    split at h
    · rename_i v hv
      have : w.cell? a = some v := by rw [cell_heap, hw]; exact hv
      simp only [Sem.run, this]; exact ih v H x h w hw
    · simp at h
  | shape r k ih => intro H x h w hw; simp only [Sem.run, shape_heap, hw]; exact ih _ H x h w hw
  | frozen a k ih => intro H x h w hw; simp only [Sem.run, frozen_heap, hw]; exact ih _ H x h w hw
  | program k ih => intro H x h w hw; exact ih _ H x h w hw
  | mark m k ih => intro H x h w hw; exact ih H x h w hw
  | _ => intro H x h; simp [qrun] at h

inductive Kind where
  | int (k : IntKind) | bool | str | ptr | sl | map | any | agg
def kindOf : TypeDesc → Kind
  | .int k => .int k
  | .bool => .bool
  | .string => .str
  | .pointer _ => .ptr
  | .slice _ => .sl
  | .map _ _ => .map
  | _ => .any
/-- the kinds of a type's cells -/
def kindsOf (P : Program) : Nat → TypeId → List Kind
  | 0, _ => []
  | d + 1, t => match P.underlying t with
    | some (.struct fs) => fs.toList.flatMap fun f => kindsOf P d f.type
    | some (.array n e) => (List.replicate n (kindsOf P d e)).flatten
    | some d => [kindOf d]
    | none => []

def ldInt (k : IntKind) (a : Addr) (H : Heap) (K : Int → Prop) : Prop := ∃ n, hcell H a = some (.int k n) ∧ K n
def ldBool (a : Addr) (H : Heap) (K : Bool → Prop) : Prop := ∃ b, hcell H a = some (.bool b) ∧ K b
def ldStr (a : Addr) (H : Heap) (K : ByteArray → Prop) : Prop := ∃ s, hcell H a = some (.string s) ∧ K s
def ldPtr (a : Addr) (H : Heap) (K : Option Addr → Prop) : Prop := ∃ p, hcell H a = some (.pointer p) ∧ K p
def ldSl (a : Addr) (H : Heap) (K : Option Addr → Nat → Nat → Prop) : Prop := ∃ p n c, hcell H a = some (.slice p n c) ∧ K p n c
def ldMap (a : Addr) (H : Heap) (K : Option Nat → Prop) : Prop := ∃ r, hcell H a = some (.map r) ∧ K r
def ldK (kd : Kind) (a : Addr) (H : Heap) (K : Value → Prop) : Prop :=
  match kd with
  | .int k => ldInt k a H fun n => K (.int k n)
  | .bool => ldBool a H fun b => K (.bool b)
  | .str => ldStr a H fun s => K (.string s)
  | .ptr => ldPtr a H fun p => K (.pointer p)
  | .sl => ldSl a H fun p n c => K (.slice p n c)
  | .map => ldMap a H fun r => K (.map r)
  | .any => ldV a H K
  | .agg => False
theorem ldK_V {kd : Kind} {a : Addr} {H : Heap} {K : Value → Prop} (h : ldK kd a H K) : ldV a H K := by
  cases kd
  case int k => obtain ⟨n, h1, h2⟩ := h; exact ⟨_, h1, h2⟩
  case bool => obtain ⟨n, h1, h2⟩ := h; exact ⟨_, h1, h2⟩
  case str => obtain ⟨n, h1, h2⟩ := h; exact ⟨_, h1, h2⟩
  case ptr => obtain ⟨n, h1, h2⟩ := h; exact ⟨_, h1, h2⟩
  case sl => obtain ⟨n, m, c, h1, h2⟩ := h; exact ⟨_, h1, h2⟩
  case map => obtain ⟨n, h1, h2⟩ := h; exact ⟨_, h1, h2⟩
  case any => exact h
  case agg => exact h.elim
def ldCells : List Kind → Addr → Nat → Heap → List Value → (List Value → Prop) → Prop
  | [], _, _, _, acc, K => K acc.reverse
  | kd :: r, a, i, H, acc, K => ldK kd (a.add i) H fun v => ldCells r a (i + 1) H (v :: acc) K
theorem ldCells_run {P : Program} (ks : List Kind) : ∀ (a : Addr) (i : Nat) (H : Heap) (acc : List Value) (K : List Value → Prop), ldCells ks a i H acc K →
    ∃ vs, K vs ∧ ∀ w : World, w.heap = H → (loadCellsFrom a i ks.length acc.reverse.toArray).run P w = .ok vs.toArray w := by
  induction ks with
  | nil => intro a i H acc K h; exact ⟨_, h, fun w hw => rfl⟩
  | cons kd r ih =>
    intro a i H acc K h
    obtain ⟨v, hv, h⟩ := ldK_V h
    obtain ⟨vs, hk, hr⟩ := ih a (i + 1) H (v :: acc) K h
    refine ⟨vs, hk, fun w hw => ?_⟩
    have hc : w.cell? (a.add i) = some v := by rw [cell_heap, hw]; exact hv
    have := hr w hw
    simp only [List.reverse_cons, ← List.push_toArray] at this
    simpa [loadCellsFrom, load, Sem.run, hc] using this

def aggB (P : Program) (t : TypeId) : Bool :=
  match P.underlying t with
  | some (.struct _) => true
  | some (.array _ _) => true
  | _ => false
def kind1 (P : Program) (t : TypeId) : Kind := match P.underlying t with | some d => kindOf d | none => .any
def ldTy (P : Program) (t : TypeId) (a : Addr) (H : Heap) (K : Value → Prop) : Prop :=
  cond (aggB P t)
    (cond (Nat.beq (kindsOf P 20 t).length (P.cellsOf t) && (P.info? t).isSome) (ldCells (kindsOf P 20 t) a 0 H [] fun vs => K (.agg vs.toArray)) False)
    (cond (P.underlying t).isSome (ldK (kind1 P t) a H K) False)
theorem ldTy_run {P : Program} {t : TypeId} {a : Addr} {H : Heap} {K : Value → Prop} (h : ldTy P t a H K) :
    ∃ v, K v ∧ ∀ w : World, w.heap = H → (loadVar t a).run P w = .ok v w := by
  unfold ldTy at h
  cases hb : aggB P t with
  | true =>
    rw [hb] at h
    simp only [cond_true] at h
    cases hl : (Nat.beq (kindsOf P 20 t).length (P.cellsOf t) && (P.info? t).isSome) with
    | false => rw [hl] at h; exact h.elim
    | true =>
      rw [hl] at h
      simp only [Bool.and_eq_true] at hl
      obtain ⟨hl1, hl2⟩ := hl
      obtain ⟨vs, hk, hr⟩ := ldCells_run (P := P) _ _ _ _ _ _ h
      refine ⟨_, hk, fun w hw => ?_⟩
      have hr' := hr w hw
      obtain ⟨i, hi⟩ := Option.isSome_iff_exists.1 hl2
      have hag : (isAgg t).run P w = .ok true w := by
        unfold aggB at hb
        split at hb <;> first | (rename_i h1; simp [isAgg, underlying, program, Sem.run, h1]; done) | simp at hb
      have hsz : (sizeOf t).run P w = .ok (kindsOf P 20 t).length w := by
        have e := Nat.eq_of_beq_eq_true hl1
        simp only [Program.cellsOf, hi, Option.map_some, Option.getD_some] at e
        simp [sizeOf, typeInfo, program, Sem.run, hi, e]
      simp only [List.reverse_nil] at hr'
      simp [loadVar, hag, hsz, loadCells, hr']
  | false =>
    rw [hb] at h
    simp only [cond_false] at h
    cases hl : (P.underlying t).isSome with
    | false => rw [hl] at h; exact h.elim
    | true =>
      rw [hl] at h
      obtain ⟨v, hv, hk⟩ := ldK_V h
      refine ⟨v, hk, fun w hw => ?_⟩
      have hc : w.cell? a = some v := by rw [cell_heap, hw]; exact hv
      obtain ⟨d, hd⟩ := Option.isSome_iff_exists.1 hl
      have hag : (isAgg t).run P w = .ok false w := by
        unfold aggB at hb
        rw [hd] at hb
        simp only [isAgg, underlying, program, Sem.run_bind, Sem.run, hd, Result.andThen_ok]
        cases d <;> simp_all
      simp [loadVar, hag, load, Sem.run, hc]

/-- an address that is known to be there -/
def ptrK (p : Option Addr) (K : Nat → Nat → Prop) : Prop :=
  match p with
  | some ⟨b, o, none⟩ => K b o
  | _ => False
theorem ptrK_of {p : Option Addr} {K : Nat → Nat → Prop} (h : ptrK p K) : ∃ b o, p = some ⟨b, o, none⟩ ∧ K b o := by
  unfold ptrK at h
  split at h
  · exact ⟨_, _, rfl, h⟩
  · exact h.elim
def chk (c : Prop) (K : Prop) : Prop := c ∧ K
/-- a part of a slice or an array -/
def idxVc (P : Program) (t : TypeId) (x : Value) (i : Value) (K : Value → Prop) : Prop :=
  match P.underlying t, x, i with
  | some (.slice e), .slice p n _, .int _ i => chk (0 ≤ i ∧ i < n) (ptrK p fun b o => cond (P.info? e).isSome (K (.pointer (some ⟨b, o + i.toNat * P.cellsOf e, none⟩))) False)
  | some (.array n e), .pointer p, .int _ i => chk (0 ≤ i ∧ i < n) (ptrK p fun b o => cond (P.info? e).isSome (K (.pointer (some ⟨b, o + i.toNat * P.cellsOf e, none⟩))) False)
  | _, _, _ => False
theorem sizeOf_run {P : Program} {t : TypeId} (h : (P.info? t).isSome = true) (w : World) : (sizeOf t).run P w = .ok (P.cellsOf t) w := by
  obtain ⟨i, hi⟩ := Option.isSome_iff_exists.1 h
  simp [sizeOf, typeInfo, program, Sem.run, hi, Program.cellsOf]
theorem add_at (b o n : Nat) : Addr.add ⟨b, o, none⟩ n = ⟨b, o + n, none⟩ := by
  unfold Addr.add; split
  · subst_vars; rfl
  · rfl
theorem und_run {P : Program} {t : TypeId} {d : TypeDesc} (h : P.underlying t = some d) (w : World) : (underlying t).run P w = .ok d w := by
  simp [underlying, program, Sem.run, h]
theorem idxVc_run {P : Program} {t : TypeId} {x i : Value} {K : Value → Prop} (h : idxVc P t x i K) :
    ∃ v, K v ∧ ∀ w : World, (Instr.indexAt t x i).run P w = .ok v w := by
  unfold idxVc at h
  split at h
  · rename_i e p n c k i hu
    obtain ⟨⟨h0, h1⟩, h⟩ := h
    obtain ⟨b, o, rfl, h⟩ := ptrK_of h
    cases hi : (P.info? e).isSome with
    | false => rw [hi] at h; exact h.elim
    | true =>
      rw [hi] at h
      refine ⟨_, h, fun w => ?_⟩
      simp [Instr.indexAt, und_run hu, asIntOf, sizeOf_run hi, h0, h1, add_at]
  · rename_i n e p k i hu
    obtain ⟨⟨h0, h1⟩, h⟩ := h
    obtain ⟨b, o, rfl, h⟩ := ptrK_of h
    cases hi : (P.info? e).isSome with
    | false => rw [hi] at h; exact h.elim
    | true =>
      rw [hi] at h
      refine ⟨_, h, fun w => ?_⟩
      simp [Instr.indexAt, und_run hu, asIntOf, sizeOf_run hi, h0, h1, add_at, Instr.sureAddr]
  · exact h.elim

/-- the slice expression on a slice, a string, an array's address -/
def bnd (x : Option Int) (d : Nat) : Nat := match x with | some i => i.toNat | none => d
def bndOk (x : Option Int) (y : Nat) (K : Prop) : Prop := match x with | some i => chk (0 ≤ i ∧ i ≤ y) K | none => K
def optInt (x : Option Value) (K : Option Int → Prop) : Prop := match x with
  | some (.int _ i) => K (some i)
  | none => K none
  | _ => False
def slAt (p : Option Addr) (l m size : Nat) : Option Addr := if m = l then p else p.map fun a => a.add (l * size)
def slVc (P : Program) (t : TypeId) (x : Value) (lo hi mx : Option Value) (K : Value → Prop) : Prop :=
  match P.underlying t, x with
  | some .string, .string s => match mx with
    | none => optInt lo fun lo => optInt hi fun hi => bndOk hi s.size (bndOk lo (bnd hi s.size) (K (.string (s.extract (bnd lo 0) (bnd hi s.size)))))
    | some _ => False
  | some (.slice e), .slice p n c => optInt lo fun lo => optInt hi fun hi => optInt mx fun mx => cond ((P.info? e).isSome && (hi.isSome || mx.isNone))
      (bndOk mx c (bndOk hi (bnd mx c) (bndOk lo (bnd hi n) (K (.slice (slAt p (bnd lo 0) (bnd mx c) (P.cellsOf e)) (bnd hi n - bnd lo 0) (bnd mx c - bnd lo 0)))))) False
  | some (.array n e), .pointer p => optInt lo fun lo => optInt hi fun hi => optInt mx fun mx => cond ((P.info? e).isSome && (hi.isSome || mx.isNone))
      (ptrK p fun b o => bndOk mx n (bndOk hi (bnd mx n) (bndOk lo (bnd hi n) (K (.slice (slAt (some ⟨b, o, none⟩) (bnd lo 0) (bnd mx n) (P.cellsOf e)) (bnd hi n - bnd lo 0) (bnd mx n - bnd lo 0)))))) False
  | _, _ => False
theorem optInt_of {x : Option Value} {K : Option Int → Prop} (h : optInt x K) : ∃ y, K y ∧ ((x = none ∧ y = none) ∨ ∃ k i, x = some (.int k i) ∧ y = some i) := by
  unfold optInt at h
  split at h
  · exact ⟨_, h, .inr ⟨_, _, rfl, rfl⟩⟩
  · exact ⟨_, h, .inl ⟨rfl, rfl⟩⟩
  · exact h.elim
theorem bndOk_of {x : Option Int} {y : Nat} {K : Prop} (h : bndOk x y K) : K ∧ ∀ i, x = some i → 0 ≤ i ∧ i ≤ y := by
  unfold bndOk at h
  split at h
  · exact ⟨h.2, fun i hi => by cases hi; exact h.1⟩
  · exact ⟨h, fun i hi => by cases hi⟩
theorem bound_run {P : Program} (k : IntKind) (i : Int) (y : Nat) (c : BoundsCode) (h : 0 ≤ i ∧ i ≤ y) (w : World) : (Instr.sliceBound (.int k i) y c).run P w = .ok i.toNat w := by
  simp [Instr.sliceBound, asIntOf, h]
theorem bounds_run {P : Program} {s : Bool} {n c : Nat} {lo hi mx : Option Value} {l h m : Option Int}
    (hl : (lo = none ∧ l = none) ∨ ∃ k i, lo = some (.int k i) ∧ l = some i) (hh : (hi = none ∧ h = none) ∨ ∃ k i, hi = some (.int k i) ∧ h = some i)
    (hm : (mx = none ∧ m = none) ∨ ∃ k i, mx = some (.int k i) ∧ m = some i) (hx : h.isSome = true ∨ m = none)
    (b1 : ∀ i, m = some i → 0 ≤ i ∧ i ≤ c) (b2 : ∀ i, h = some i → 0 ≤ i ∧ i ≤ (bnd m c : Nat)) (b3 : ∀ i, l = some i → 0 ≤ i ∧ i ≤ (bnd h n : Nat)) (w : World) :
    (Instr.sliceBounds s n c lo hi mx).run P w = .ok (bnd l 0, bnd h n, bnd m c) w := by
  rcases hl with ⟨rfl, rfl⟩ | ⟨kl, il, rfl, rfl⟩ <;> rcases hh with ⟨rfl, rfl⟩ | ⟨kh, ih, rfl, rfl⟩ <;> rcases hm with ⟨rfl, rfl⟩ | ⟨km, im, rfl, rfl⟩ <;>
    simp only [bnd] at b1 b2 b3 ⊢ <;>
    first
    | (simp at hx; done)
    | (simp only [Instr.sliceBounds]
       simp [bound_run (P := P) _ _ _ _ (b1 _ rfl), bound_run (P := P) _ _ _ _ (b2 _ rfl), bound_run (P := P) _ _ _ _ (b3 _ rfl)]; done)
    | (simp only [Instr.sliceBounds]
       simp [bound_run (P := P) _ _ _ _ (b2 _ rfl), bound_run (P := P) _ _ _ _ (b3 _ rfl)]; done)
    | (simp only [Instr.sliceBounds]
       simp [bound_run (P := P) _ _ _ _ (b1 _ rfl), bound_run (P := P) _ _ _ _ (b2 _ rfl)]; done)
    | (simp only [Instr.sliceBounds]
       simp [bound_run (P := P) _ _ _ _ (b3 _ rfl)]; done)
    | (simp only [Instr.sliceBounds]
       simp [bound_run (P := P) _ _ _ _ (b2 _ rfl)]; done)
    | (simp [Instr.sliceBounds]; done)
theorem slVc_run {P : Program} {t : TypeId} {x : Value} {lo hi mx : Option Value} {K : Value → Prop} (h : slVc P t x lo hi mx K) :
    ∃ v, K v ∧ ∀ w : World, (Instr.sliceAt t x lo hi mx).run P w = .ok v w := by
  unfold slVc at h
  split at h
  · rename_i s hu
    cases mx with
    | some m => exact h.elim
    | none =>
      obtain ⟨l, h, hl⟩ := optInt_of h
      obtain ⟨hh, h, hhh⟩ := optInt_of h
      obtain ⟨h, b2⟩ := bndOk_of h
      obtain ⟨h, b3⟩ := bndOk_of h
      refine ⟨_, h, fun w => ?_⟩
      have := bounds_run (P := P) (s := false) (n := s.size) (c := s.size) hl hhh (.inl ⟨rfl, rfl⟩) (.inr rfl) (fun _ h => by cases h) b2 b3 w
      simp [Instr.sliceAt, Instr.slice, und_run hu, this]
  · rename_i e p n c hu
    obtain ⟨l, h, hl⟩ := optInt_of h
    obtain ⟨hh, h, hhh⟩ := optInt_of h
    obtain ⟨m, h, hm⟩ := optInt_of h
    cases hi : ((P.info? e).isSome && (hh.isSome || m.isNone)) with
    | false => rw [hi] at h; exact h.elim
    | true =>
      rw [hi] at h
      simp only [Bool.and_eq_true, Bool.or_eq_true, Option.isNone_iff_eq_none] at hi
      obtain ⟨h, b1⟩ := bndOk_of h
      obtain ⟨h, b2⟩ := bndOk_of h
      obtain ⟨h, b3⟩ := bndOk_of h
      refine ⟨_, h, fun w => ?_⟩
      have := bounds_run (P := P) (s := true) (n := n) (c := c) hl hhh hm hi.2 b1 b2 b3 w
      simp [Instr.sliceAt, Instr.slice, und_run hu, this, sizeOf_run hi.1, slAt]
  · rename_i n e p hu
    obtain ⟨l, h, hl⟩ := optInt_of h
    obtain ⟨hh, h, hhh⟩ := optInt_of h
    obtain ⟨m, h, hm⟩ := optInt_of h
    cases hi : ((P.info? e).isSome && (hh.isSome || m.isNone)) with
    | false => rw [hi] at h; exact h.elim
    | true =>
      rw [hi] at h
      simp only [Bool.and_eq_true, Bool.or_eq_true, Option.isNone_iff_eq_none] at hi
      obtain ⟨b, o, rfl, h⟩ := ptrK_of h
      obtain ⟨h, b1⟩ := bndOk_of h
      obtain ⟨h, b2⟩ := bndOk_of h
      obtain ⟨h, b3⟩ := bndOk_of h
      refine ⟨_, h, fun w => ?_⟩
      have := bounds_run (P := P) (s := false) (n := n) (c := n) hl hhh hm hi.2 b1 b2 b3 w
      simp [Instr.sliceAt, und_run hu, this, sizeOf_run hi.1, slAt, Instr.sureAddr]
      split <;> simp_all
  · exact h.elim
end Go.Vc
