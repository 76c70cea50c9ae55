/-
  Parts of a proof: see the row.
-/
import Derived.Test.YtljdcbcjdlpbgaaV2Lib
set_option linter.unusedVariables false
set_option linter.unusedSimpArgs false
namespace Go.V2
open Go.Vc

/-! ## maps under whole numbers -/
abbrev ML := List (Int × Value)
def mpair (e : MapEntry) : Value × Value := (e.key, e.val)
def kpair (kv : Int × Value) : Value × Value := (.int .i64 kv.1, kv.2)
def MapAt (H : Heap) (r : Nat) (ml : ML) : Prop := ∃ es c, H[r]? = some (.map es c) ∧ es.toList.map mpair = ml.map kpair ∧ (ml.map (·.1)).Nodup
def mlook (ml : ML) (k : Int) : Option Value := (ml.find? fun kv => kv.1 == k).map (·.2)
def mupd (ml : ML) (k : Int) (v : Value) : ML := if (mlook ml k).isSome then ml.map fun kv => if kv.1 = k then (k, v) else kv else ml ++ [(k, v)]
theorem MapAt.of_block {H H' : Heap} {r : Nat} {ml : ML} (h : MapAt H r ml) (e : H'[r]? = H[r]?) : MapAt H' r ml := by
  obtain ⟨es, c, h1, h2⟩ := h; exact ⟨es, c, e.trans h1, h2⟩
theorem MapAt.lt {H : Heap} {r : Nat} {ml : ML} (h : MapAt H r ml) : r < H.size := by obtain ⟨es, c, h1, _⟩ := h; exact hlt_of_block h1
theorem MapAt.new {H : Heap} {r : Nat} {c : Nat} (h : H[r]? = some (.map #[] c)) : MapAt H r [] := ⟨#[], c, h, rfl, by simp⟩
theorem pair_keys {es : List MapEntry} {ml : ML} (h : es.map mpair = ml.map kpair) : keysI .i64 es := fun e he => by
  have : mpair e ∈ es.map mpair := List.mem_map_of_mem he
  rw [h] at this
  obtain ⟨kv, _, h2⟩ := List.mem_map.1 this
  injection h2 with h3 h4
  exact ⟨kv.1, h3.symm⟩
theorem pair_look {es : List MapEntry} : ∀ {ml : ML}, es.map mpair = ml.map kpair → ∀ k, mget k es = mlook ml k := by
  induction es with
  | nil => intro ml h k; cases ml with
    | nil => rfl
    | cons a l => simp at h
  | cons e es ih =>
    intro ml h k
    cases ml with
    | nil => simp at h
    | cons a l =>
      simp only [List.map_cons, List.cons.injEq] at h
      obtain ⟨h1, h2⟩ := h
      injection h1 with h3 h4
      have := ih h2 k
      unfold mget mlook at this ⊢
      simp only [List.find?_cons, keyIs, h3]
      by_cases hk : a.1 = k
      · subst hk; simp [h4]
      · have e1 : (k == a.1) = false := by simpa using fun h => hk h.symm
        have e2 : (a.1 == k) = false := by simpa using hk
        rw [e1, e2]; exact this
/-- a look into a map, as a demand has it -/
theorem mapK_at {H : Heap} {r : Nat} {ml : ML} (h : MapAt H r ml) {k : Int} {A : Value → Prop} {B : Prop} (ha : ∀ v, mlook ml k = some v → A v) (hb : mlook ml k = none → B) :
    mapK (.map (some r)) H fun es => keysI .i64 es.toList ∧ (∀ v, mget k es.toList = some v → A v) ∧ (mget k es.toList = none → B) := by
  obtain ⟨es, c, h1, h2, h3⟩ := h
  exact ⟨es, c, h1, pair_keys h2, fun v hv => ha v (by rw [← pair_look h2]; exact hv), fun hv => hb (by rw [← pair_look h2]; exact hv)⟩
theorem mapLen_at {H : Heap} {r : Nat} {ml : ML} (h : MapAt H r ml) {A : Int → Prop} (ha : A ml.length) : mapK (.map (some r)) H fun es => A es.size := by
  obtain ⟨es, c, h1, h2, h3⟩ := h
  refine ⟨es, c, h1, ?_⟩
  have := congrArg List.length h2
  simp only [List.length_map, Array.length_toList] at this
  show A es.size
  rw [this]; exact ha
theorem find_at (k : Int) : ∀ (es : List MapEntry) (ml : ML) (i : Nat), es.map mpair = ml.map kpair →
    (mlook ml k = none ∧ Instr.findNow (.int .i64) (.int .i64 k) es i = some none) ∨
    ∃ j v, Instr.findNow (.int .i64) (.int .i64 k) es i = some (some (i + j, v)) ∧ ml[j]? = some (k, v) ∧ mlook ml k = some v
  | [], ml, i, h => by
    cases ml with
    | nil => exact .inl ⟨rfl, rfl⟩
    | cons a l => simp at h
  | e :: es, ml, i, h => by
    cases ml with
    | nil => simp at h
    | cons a l =>
      simp only [List.map_cons, List.cons.injEq] at h
      obtain ⟨h1, h2⟩ := h
      injection h1 with h3 h4
      have hn : Instr.sameNow (.int .i64) (.int .i64 k) e.key = some (k == a.1) := by rw [h3]; simp [Instr.sameNow]
      by_cases hk : a.1 = k
      · subst hk
        refine .inr ⟨0, a.2, ?_, rfl, by simp [mlook]⟩
        simp only [Instr.findNow, hn, beq_self_eq_true, h4]; rfl
      · have e1 : (k == a.1) = false := by simpa using fun h => hk h.symm
        have e2 : (a.1 == k) = false := by simpa using hk
        have hl : mlook (a :: l) k = mlook l k := by unfold mlook; simp only [List.find?_cons, e2]
        rw [e1] at hn
        rcases find_at k es l (i + 1) h2 with ⟨g1, g2⟩ | ⟨j, v, g1, g2, g3⟩
        · exact .inl ⟨by rw [hl]; exact g1, by simp only [Instr.findNow, hn]; exact g2⟩
        · exact .inr ⟨j + 1, v, by simp only [Instr.findNow, hn]; rw [g1]; simp only [Nat.add_assoc, Nat.add_comm 1 j], by simpa using g2, by rw [hl]; exact g3⟩
theorem mupd_keys_new {ml : ML} {k : Int} {v : Value} (h : mlook ml k = none) : mupd ml k v = ml ++ [(k, v)] := by unfold mupd; rw [h]; rfl
theorem not_mem_of_look {ml : ML} {k : Int} (h : mlook ml k = none) : k ∉ ml.map (·.1) := by
  intro hm
  obtain ⟨kv, h1, h2⟩ := List.mem_map.1 hm
  unfold mlook at h
  rw [Option.map_eq_none_iff, List.find?_eq_none] at h
  exact h kv h1 (by simpa using h2)
theorem set_map {ml : ML} {k : Int} {v w : Value} {j : Nat} (hn : (ml.map (·.1)).Nodup) (hj : ml[j]? = some (k, w)) : ml.set j (k, v) = ml.map fun kv => if kv.1 = k then (k, v) else kv := by
  induction ml generalizing j with
  | nil => simp at hj
  | cons a l ih =>
    simp only [List.map_cons, List.nodup_cons] at hn
    cases j with
    | zero =>
      simp only [List.getElem?_cons_zero, Option.some.injEq] at hj
      subst hj
      simp only [List.set_cons_zero, List.map_cons, if_true]
      congr 1
      symm
      have : l.map (fun kv => if kv.1 = k then (k, v) else kv) = l.map id := List.map_congr_left fun kv hkv => by
        rw [if_neg (fun e => hn.1 (List.mem_map.2 ⟨kv, hkv, e⟩))]; rfl
      rw [this, List.map_id]
    | succ j =>
      simp only [List.getElem?_cons_succ] at hj
      have hne : a.1 ≠ k := fun e => hn.1 (List.mem_map.2 ⟨(k, w), List.mem_of_getElem? hj, e.symm⟩)
      simp only [List.set_cons_succ, List.map_cons, if_neg hne]
      rw [ih hn.2 hj]
theorem semVc_getMap {P : Program} {r : Nat} {es : Array MapEntry} {c : Nat} {H : Heap} {K : Obj → Heap → Prop} (h : H[r]? = some (.map es c)) (hk : K (.map es c) H) : semVc P (getObj r) H K :=
  ⟨_, h, ⟨fun _ _ _ e => (by cases e), hk⟩⟩
/-- **m[k] = v** -/
theorem muV_at {P : Program} {t kt et : TypeId} {H : Heap} {r : Nat} {ml : ML} {k : Int} {v : Value} {K : Heap → Prop} (h0 : P.underlying t = some (.map kt et)) (hk : P.underlying kt = some (.int .i64)) (h : MapAt H r ml)
    (hK : ∀ H', H'.size = H.size → (∀ i, i ≠ r → H'[i]? = H[i]?) → MapAt H' r (mupd ml k v) → K H') : muV P t (.map (some r)) (.int .i64 k) v H K := by
  obtain ⟨es, c, h1, h2, h3⟩ := h
  have hr := hlt_of_block h1
  have fin : ∀ es' c', es'.toList.map mpair = (mupd ml k v).map kpair → ((mupd ml k v).map (·.1)).Nodup → setK r (.map es' c') H fun H' => K H' := fun es' c' e1 e2 => by
    refine ⟨⟨_, h1, fun _ _ _ e => by cases e⟩, fun H' e => ?_⟩
    subst e
    exact hK _ (by simp) (fun i hi => by rw [Array.getElem?_setIfInBounds, if_neg (fun e => hi e.symm)]) ⟨es', c', by rw [Array.getElem?_setIfInBounds, if_pos rfl, if_pos hr], e1, e2⟩
  unfold muV Instr.mapUpdate
  refine semVc_bind _ _ _ _ _ (semVc_und h0 ?_)
  simp only
  refine semVc_bind _ _ _ _ _ (semVc_getMap h1 ?_)
  simp only
  refine semVc_bind _ _ _ _ _ ?_
  have hck : ∀ (K2 : Unit → Heap → Prop), K2 () H → semVc P (Instr.checkKey false 10000 kt (.int .i64 k)) H K2 := fun K2 hk2 => by
    unfold Instr.checkKey
    refine semVc_bind _ _ _ _ _ (semVc_und hk ?_)
    exact hk2
  refine hck _ ?_
  refine semVc_bind _ _ _ _ _ ?_
  have hf : ∀ (x : Option (Nat × Value)) (K2 : Option (Nat × Value) → Heap → Prop), Instr.findNow (.int .i64) (.int .i64 k) es.toList 0 = some x → K2 x H → semVc P (Instr.findKey kt (.int .i64 k) es.toList) H K2 := fun x K2 hx hk2 => by
    unfold Instr.findKey
    refine semVc_bind _ _ _ _ _ (semVc_und hk ?_)
    simp only [hx]
    exact hk2
  rcases find_at k es.toList ml 0 h2 with ⟨g1, g2⟩ | ⟨j, w, g1, g2, g3⟩
  · refine hf _ _ g2 ?_
    rw [mupd_keys_new g1] at fin
    refine fin _ _ ?_ ?_
    · simp [h2, mpair, kpair]
    · rw [List.map_append, List.nodup_append]
      refine ⟨h3, by simp, fun a ha b hb => ?_⟩
      simp only [List.map_cons, List.map_nil, List.mem_singleton] at hb
      subst hb
      rintro rfl
      exact not_mem_of_look g1 ha
  · refine hf _ _ g1 ?_
    simp only [Nat.zero_add]
    refine semVc_bind _ _ _ _ _ ?_
    have hjl : j < es.size := by
      have := congrArg List.length h2
      simp only [List.length_map, Array.length_toList] at this
      rw [this]
      rcases Nat.lt_or_ge j ml.length with h | h
      · exact h
      · rw [List.getElem?_eq_none h] at g2; cases g2
    have hkey : es[j]?.map (·.key) = some (.int .i64 k) := by
      have := congrArg (·[j]?) h2
      simp only [List.getElem?_map, g2, Option.map_some] at this
      cases hq : es[j]? with
      | none => rw [Array.getElem?_eq_none_iff] at hq; omega
      | some e =>
        have hq' : es.toList[j]? = some e := by simpa using hq
        rw [hq'] at this
        simp only [Option.map_some, Option.some.injEq] at this
        injection this with h5 _
        simp [h5]
    rw [hkey]
    simp only [Option.getD_some]
    have hsame : Instr.sameBits 10000 (.int .i64 k) (.int .i64 k) = true := by simp [Instr.sameBits]
    unfold Instr.keyThatStays
    rw [if_pos hsame]
    have hup : mupd ml k v = ml.set j (k, v) := by unfold mupd; rw [g3]; exact (set_map h3 g2).symm
    rw [hup] at fin
    refine fin _ _ ?_ ?_
    · apply List.ext_getElem?
      intro i
      have hi := congrArg (·[i]?) h2
      simp only [List.getElem?_map] at hi ⊢
      simp only [Array.getElem?_toList, Array.getElem?_modify, List.getElem?_set] at hi ⊢
      by_cases hij : j = i
      · subst hij
        rw [if_pos rfl, if_pos rfl, if_pos (by
          rcases Nat.lt_or_ge j ml.length with h | h
          · exact h
          · rw [List.getElem?_eq_none h] at g2; cases g2)]
        rw [Array.getElem?_eq_getElem hjl]
        rfl
      · rw [if_neg hij, if_neg hij]; exact hi
    · have : (ml.set j (k, v)).map (·.1) = ml.map (·.1) := by
        rw [List.map_set]
        apply List.ext_getElem?
        intro i
        rw [List.getElem?_set]
        split
        · rename_i e; subst e
          simp only [List.getElem?_map, g2, Option.map_some]
          split
          · rfl
          · rename_i hh
            simp only [List.length_map] at hh
            rw [List.getElem?_eq_none (by omega)] at g2; cases g2
        · rfl
      rw [this]; exact h3
end Go.V2
