/-
  What arguments hold, cell by cell; from the heap to a row.
-/
import Derived.Test.YtljdcbcjdlpbgaaVcLib
import Derived.WalkKit
import Derived.ProofKit
import Derived.OpenShut
import Derived.ShutString
import Derived.ChangeOld
import Derived.Deep.Slices
set_option linter.unusedVariables false
set_option linter.unusedSimpArgs false
namespace Go.Vc
open Go.ChangeShapes Go.WideShapes Go.ChangeAt Go.RowKit

/-! ## what comes in, cell by cell -/
def cellIs : Kind → Value → Prop
  | .int k, v => ∃ n, v = .int k n ∧ (Lit.int k n).wf = true
  | .bool, v => ∃ b, v = .bool b
  | .str, v => ∃ s : ByteArray, v = .string s ∧ s.size ≤ maxLen
  | _, _ => True
def FlatOk : List Kind → List Value → Prop
  | [], [] => True
  | k :: ks, c :: cs => cellIs k c ∧ FlatOk ks cs
  | _, _ => False
theorem FlatOk.len : ∀ {ks : List Kind} {cs : List Value}, FlatOk ks cs → cs.length = ks.length
  | [], [], _ => rfl
  | _ :: _, _ :: _, h => by simp [FlatOk.len h.2]
  | [], _ :: _, h => h.elim
  | _ :: _, [], h => h.elim
theorem FlatOk.append : ∀ {ks ks' : List Kind} {cs cs' : List Value}, FlatOk ks cs → FlatOk ks' cs' → FlatOk (ks ++ ks') (cs ++ cs')
  | [], _, [], _, _, h => h
  | _ :: _, _, _ :: _, _, h, h' => ⟨h.1, FlatOk.append h.2 h'⟩
  | [], _, _ :: _, _, h, _ => h.elim
  | _ :: _, _, [], _, h, _ => h.elim
theorem FlatOk.cons_of {k : Kind} {ks : List Kind} : ∀ {cs : List Value}, FlatOk (k :: ks) cs → ∃ c r, cs = c :: r ∧ cellIs k c ∧ FlatOk ks r
  | _ :: _, h => ⟨_, _, rfl, h.1, h.2⟩
  | [], h => h.elim
theorem FlatOk.nil_of : ∀ {cs : List Value}, FlatOk [] cs → cs = []
  | [], _ => rfl
  | _ :: _, h => h.elim
def contigB (P : Program) (ok : TypeId → Bool) : List Field → Nat → Bool
  | [], _ => true
  | f :: r, off => Nat.beq f.offset off && ok f.type && contigB P ok r (off + P.cellsOf f.type)
def flatB (P : Program) : Nat → TypeId → Bool
  | 0, _ => false
  | d + 1, t => match P.underlying t with
    | some (.struct fs) => contigB P (flatB P d) fs.toList 0 && Nat.beq (fs.toList.foldl (fun n f => n + P.cellsOf f.type) 0) (P.cellsOf t)
    | some (.int _) => true
    | some .bool => true
    | some .string => true
    | _ => false
section
variable {H : Type} {enc : TypeId × Value → H} {P : Program} {w : World} {base : Nat} {spare : Nat → Bool} {held : Bool}
theorem foldl_add (P : Program) (l : List Field) : ∀ n, l.foldl (fun n f => n + P.cellsOf f.type) n = n + l.foldl (fun n f => n + P.cellsOf f.type) 0 := by
  induction l with
  | nil => intro n; simp
  | cons f r ih => intro n; simp only [List.foldl_cons]; rw [ih, ih (0 + _)]; omega
theorem flat_fields {d : Nat} {cs : List Value} : ∀ (fs : List Field) (off : Nat), contigB P (flatB P d) fs off = true → cs.length = off + fs.foldl (fun n f => n + P.cellsOf f.type) 0 →
    (∀ f ∈ fs, flatB P d f.type = true → FlatOk (kindsOf P d f.type) ((cs.drop f.offset).take (P.cellsOf f.type))) → FlatOk (fs.flatMap fun f => kindsOf P d f.type) (cs.drop off)
  | [], off, _, hl, _ => by
    simp only [List.foldl_nil, Nat.add_zero] at hl
    rw [List.drop_of_length_le (by omega)]; exact trivial
  | f :: r, off, hc, hl, hf => by
    simp only [contigB, Bool.and_eq_true] at hc
    obtain ⟨⟨ho, hk⟩, hc⟩ := hc
    have ho := Nat.eq_of_beq_eq_true ho
    simp only [List.foldl_cons] at hl
    rw [foldl_add] at hl
    have h1 := hf f (by simp) hk
    rw [ho] at h1
    have h2 := flat_fields r (off + P.cellsOf f.type) hc (by omega) (fun g hg => hf g (by simp [hg]))
    have e : cs.drop off = (cs.drop off).take (P.cellsOf f.type) ++ cs.drop (off + P.cellsOf f.type) := by
      rw [← List.drop_drop, List.take_append_drop]
    rw [List.flatMap_cons, e]
    exact h1.append h2
theorem trod_flat : ∀ (d : Nat) {t : TypeId} {fuel : Nat} {cs : List Value} {x : DataW H × List MemPlace}, flatB P d t = true → DataW.trod enc P w base spare held fuel t cs = some x → FlatOk (kindsOf P d t) cs
  | 0, _, _, _, _, h, _ => by simp [flatB] at h
  | d + 1, t, fuel, cs, x, h, ht => by
    simp only [flatB] at h
    simp only [kindsOf]
    split at h
    · rename_i fs hu
      simp only [Bool.and_eq_true] at h
      obtain ⟨xs, n, _, _, hl, hlen, hfs⟩ := DataW.trod_struct hu ht
      simp only [hu]
      have := flat_fields (cs := cs) fs.toList 0 h.1 (by rw [hl, ← Nat.eq_of_beq_eq_true h.2]; omega) (fun f hf hk => by
        obtain ⟨i, hi, rfl⟩ := List.getElem_of_mem hf
        have hi' : i < fs.size := by simpa using hi
        have h1 := hfs i _ (by simp [hi'] : fs[i]? = some fs.toList[i])
        have hx : xs[i]? = some (xs[i]'(by omega)) := by simp [hlen, hi']
        rw [hx] at h1
        exact trod_flat d hk h1)
      simpa using this
    · rename_i k hu
      obtain ⟨n, rfl, _, hw⟩ := DataW.trod_int hu ht
      simp only [hu]; exact ⟨⟨n, rfl, hw⟩, trivial⟩
    · rename_i hu
      obtain ⟨n, rfl, _⟩ := DataW.trod_bool hu ht
      simp only [hu]; exact ⟨⟨n, rfl⟩, trivial⟩
    · rename_i hu
      obtain ⟨n, rfl, _, hw⟩ := DataW.trod_string hu ht
      simp only [hu]; exact ⟨⟨n, rfl, hw⟩, trivial⟩
    · cases h
/-- a slice of flat elements that came in -/
def SlFlat (ks : List Kind) (H : Heap) (p : Option Addr) (n c : Nat) : Prop :=
  (n = 0 ∧ (p = none → c = 0)) ∨ ∃ b o, p = some ⟨b, o, none⟩ ∧ b < H.size ∧ n ≤ c ∧ c ≤ maxLen ∧ ∀ i, i < n → ∃ cs, FlatOk ks cs ∧ ∀ j, j < ks.length → hcell H ⟨b, o + i * ks.length + j, none⟩ = cs[j]?
theorem cells_get {w : World} {a : Addr} {n : Nat} {cs : List Value} (h : w.cells? base a n = some cs) : cs.length = n ∧ ∀ j, j < n → w.cell? (a.add j) = cs[j]? := by
  unfold World.cells? at h
  split at h
  · refine ⟨by have := mapM_some_length h; simpa using this, fun j hj => ?_⟩
    have := mapM_some_get h j j (by simp [hj])
    simpa using this
  · cases h
theorem open_flat {t e : TypeId} {r : Reach} {b0 d : Nat} {v : Value} {D : DataW H} {ps : List MemPlace} (ht : P.underlying t = some (.slice e)) (hf : flatB P d e = true) (hk : Nat.beq (kindsOf P d e).length (P.cellsOf e) = true)
    (hpos : Nat.blt 0 (P.cellsOf e) = true) (hval : Value.okWide P w r b0 t v) (h : DataW.Trod enc P w 0 (fun _ => true) held t v D ps) :
    ∃ p n c, v = .slice p n c ∧ SlFlat (kindsOf P d e) w.heap p n c := by
  obtain ⟨p, n, c, rfl⟩ := okWide_slice ht hval
  refine ⟨p, n, c, rfl, ?_⟩
  obtain ⟨fuel, hf'⟩ := h
  rcases Deep.open_slice ht hf' with ⟨hcs, _⟩ | ⟨a, len, cap, m, k, Df, Pl, hcs, _, hlc, hcm, hm, _, hel⟩
  · simp [Value.cells] at hcs
    exact .inl ⟨hcs.2.1, fun _ => hcs.2.2⟩
  · simp [Value.cells] at hcs
    obtain ⟨rfl, rfl, rfl⟩ := hcs
    have hk := Nat.eq_of_beq_eq_true hk
    have hpos : 0 < P.cellsOf e := Nat.blt_eq.mp hpos
    by_cases hn : n = 0
    · exact .inl ⟨hn, fun h => by cases h⟩
    have hmn : n ≤ m := by rw [hm]; simp; exact hlc
    have get : ∀ i, i < n → ∃ cs, FlatOk (kindsOf P d e) cs ∧ ∀ j, j < (kindsOf P d e).length → w.cell? (a.add (i * P.cellsOf e + j)) = cs[j]? := fun i hi => by
      obtain ⟨cs', hc, ht'⟩ := hel i (by omega)
      obtain ⟨_, hg⟩ := cells_get hc
      refine ⟨cs', trod_flat d hf ht', fun j hj => ?_⟩
      rw [← Deep.add_add]; exact hg j (by omega)
    have hspot : a.spot = none ∧ a.block < w.heap.size := by
      obtain ⟨cs, hfl, hg⟩ := get 0 (by omega)
      have hl := hfl.len
      have h0 := hg 0 (by omega)
      rw [List.getElem?_eq_getElem (by omega)] at h0
      simp only [Nat.zero_mul, Nat.add_zero, Addr.add, if_true] at h0
      unfold World.cell? at h0
      split at h0
      · rename_i c T f hb
        constructor
        · cases hs : a.spot with
          | none => rfl
          | some s => simp [hs] at h0
        · exact hlt_of_block hb
      · cases h0
    refine .inr ⟨a.block, a.off, ?_, hspot.2, hlc, hcm, fun i hi => ?_⟩
    · cases a; simp_all
    · obtain ⟨cs, hfl, hg⟩ := get i hi
      refine ⟨cs, hfl, fun j hj => ?_⟩
      rw [← hg j hj, ← cell_heap]
      congr 1
      unfold Addr.add
      rw [hk]
      split
      · rename_i h0; cases a; simp_all
      · rw [Nat.add_assoc]
theorem open_flat1 {t : TypeId} {fs : Array Field} {r : Reach} {b0 d : Nat} {v : Value} {D : DataW H} {ps : List MemPlace} (ht : P.underlying t = some (.struct fs)) (hf : flatB P d t = true) (hval : Value.okWide P w r b0 t v)
    (h : DataW.Trod enc P w 0 (fun _ => true) held t v D ps) : ∃ cs, v = .agg cs ∧ FlatOk (kindsOf P d t) cs.toList := by
  obtain ⟨cs, rfl, hsz⟩ := okWide_struct ht hval
  obtain ⟨fuel, hf'⟩ := h
  exact ⟨cs, rfl, trod_flat d hf hf'⟩
end
/-- what a law says of the heap: it answers true, and what was there is there -/
def Tells (H : Heap) (v : Value) (H' : Heap) : Prop := v = .bool true ∧ Old H.size H H'
theorem calls_of_tells {P : Program} {f : FuncId} {args : Array Value} {w : World} (h : HC P f args w.heap (Tells w.heap)) :
    Calls P f args w fun e w' => e = .returned (.bool true) ∧ Below w.heap.size w w' :=
  (h w rfl).mono fun _ _ ⟨_, he, ha, hv, ho⟩ => ⟨by rw [he, hv], Old.below ha ho⟩
theorem lt_of_trod {H : Type} {enc : TypeId × Value → H} {P : Program} {w : World} {held : Bool} {t : TypeId} {v : Value} {d : DataW H} {ps : List MemPlace}
    (h : DataW.Trod enc P w 0 (fun _ => true) held t v d ps) : ∀ x ∈ ps, x.block < w.heap.size := by
  obtain ⟨m, hm⟩ := h; exact DataW.trod_lt m _ _ _ hm
end Go.Vc
