/-
  Parts of a proof: see the row.
-/
import Derived.Test.YtljdcbcjdlpbgaaV2F
set_option linter.unusedVariables false
set_option linter.unusedSimpArgs false
namespace Go.V2
open Go.Vc
section
variable {P : Program} {A : Ann} {n : Nat} {w0 : World} {F0 : FF} {H0 : Heap} {ops : Array Oper}
def firstQ (lab : Nat → Bool) : List Nat → Option Nat
  | [] => none
  | i :: r => cond (lab i) (some i) (firstQ lab r)
theorem firstQ_of {lab : Nat → Bool} {l : List Nat} {i : Nat} (h : firstQ lab l = some i) : i ∈ l ∧ lab i = true := by
  induction l with
  | nil => cases h
  | cons j r ih =>
    simp only [firstQ] at h
    cases hb : lab j with
    | true => rw [hb] at h; simp only [cond_true, Option.some.injEq] at h; subst h; exact ⟨by simp, hb⟩
    | false => rw [hb] at h; obtain ⟨h1, h2⟩ := ih h; exact ⟨by simp [h1], h2⟩
theorem firstQ_none {lab : Nat → Bool} {l : List Nat} (h : firstQ lab l = none) : ∀ i ∈ l, lab i = false := by
  induction l with
  | nil => intro i hi; cases hi
  | cons j r ih =>
    simp only [firstQ] at h
    cases hb : lab j with
    | true => rw [hb] at h; cases h
    | false =>
      rw [hb] at h
      intro i hi
      rcases List.mem_cons.1 hi with rfl | hi
      · exact hb
      · exact ih h i hi
/-- it has been read as this, and is read as this -/
def sameV (a b : Value) : Prop := a = b
def eqD (d : Option Nat) (e : Env) (u : Value) : Prop := match d with
  | some t => sameV (e.get t) u
  | none => False
def revA (P : Program) (A : Ann) (ops : Array Oper) : List Nat → Env → Heap → Prop → Prop
  | [], _, _, K => K
  | j :: r, e, H, K => (match ops[j]? with
    | some o => guardA A ops o e (fun e' => opL P o e'.eval H fun u => eqD o.dst e' u) (fun _ => True)
    | none => True) ∧ revA P A ops r e H K
def revs (P : Program) (A : Ann) (ops : Array Oper) (js : List Nat) (e : Env) (F : FF) (d : Bool) (H : Heap) (K : FF → Bool → Heap → Prop) : Prop := match js with
  | [] => K F d H
  | js => expo d F H fun F H => revA P A ops js e H (K F false H)
def allR : List Nat → (Nat → Prop) → Prop
  | [], _ => True
  | [k], K => K k
  | k :: r, K => K k ∧ allR r K
theorem allR_of {l : List Nat} {K : Nat → Prop} (h : allR l K) : ∀ k ∈ l, K k := by
  induction l with
  | nil => intro k hk; cases hk
  | cons j r ih =>
    cases r with
    | nil => intro k hk; simp only [List.mem_singleton] at hk; subst hk; exact h
    | cons j' r =>
      intro k hk
      rcases List.mem_cons.1 hk with rfl | hk
      · exact h.1
      · exact ih h.2 k hk
def keepW (W : List Nat) (k : Nat) : List Nat → List Nat
  | [] => []
  | j :: r => cond (wtB W k j) (keepW W k r) (j :: keepW W k r)
theorem mem_keepW {W : List Nat} {k : Nat} {l : List Nat} {j : Nat} (h : j ∈ l) (hw : wtB W k j = false) : j ∈ keepW W k l := by
  induction l with
  | nil => cases h
  | cons x r ih =>
    simp only [keepW]
    rcases List.mem_cons.1 h with rfl | h
    · rw [hw]; simp
    · cases wtB W k x
      · simp [ih h]
      · exact ih h
def vcD (P : Program) (A : Ann) (n : Nat) (ops : Array Oper) (W : List Nat) : Nat → List Nat → Array Bool → Env → FF → Bool → Heap → (Env → FF → Bool → Heap → Prop) → Prop
  | 0, _, listed, e, F, d, H, K => cond (Region.ready .any ops listed).isEmpty (K e F d H) False
  | f + 1, al, listed, e, F, d, H, K => match firstQ (labA P A ops) (Region.ready .any ops listed) with
    | some j => (match ops[j]? with
      | some o => guardA A ops o e (fun e => seeA P A n o e F d H fun e' F' d' H' => vcD P A n ops W f (cond (isQu P A o) al (j :: al)) (listed.setIfInBounds j true) e' F' d' H' K)
          (fun e => skipA A n o.dst e fun e' => vcD P A n ops W f al (listed.setIfInBounds j true) e' F d H K)
      | none => False)
    | none => match Region.ready .any ops listed with
      | [] => K e F d H
      | k :: r => allR (k :: r) fun k => (match ops[k]? with
        | some o => guardA A ops o e (fun e => loudA P A n o e F d H fun e' F' d' H' => revs P A ops (keepW W k al) e' F' d' H' fun F2 d2 H2 => vcD P A n ops W f (keepW W k al) (listed.setIfInBounds k true) e' F2 d2 H2 K)
            (fun e => skipA A n o.dst e fun e' => vcD P A n ops W f (keepW W k al) (listed.setIfInBounds k true) e' F d H K)
        | none => False)
/-- what is known of a listed quiet one -/
def YI (P : Program) (A : Ann) (ops : Array Oper) (o : Oper) (i : Nat) (v : Value) (e : Env) (a : Act) (H : Heap) (al : List Nat) : Prop :=
  (Region.wanted o (yielded ops a.tmps) = true ∧ (Stdy P A o v e a ∨ (isRd P A o = true ∧ i ∈ al ∧ (∀ t, o.dst = some t → okT A t = true ∧ e.get t = v) ∧ ∀ w : World, w.heap = H → Run1 P o a.eval w v))) ∨
  (Region.wanted o (yielded ops a.tmps) = false ∧ v = undef)
theorem YI.yw {o : Oper} {i : Nat} {v : Value} {e : Env} {a : Act} {H : Heap} {al : List Nat} {B : Nat} {F : FF} (hb : BX A B e F H a) (h : YI P A ops o i v e a H al) : YW P ops o v a H := by
  rcases h with ⟨hw, h | ⟨_, _, _, h⟩⟩ | h
  · exact .inl ⟨hw, h.run hb⟩
  · exact .inl ⟨hw, h⟩
  · exact .inr h
theorem dk_low {o : Oper} {t : Nat} (ht : t < 1000000) (h : t ∈ dk A o) : o.dst = some t := by
  unfold dk at h
  rw [List.mem_append] at h
  rcases h with h | h
  · split at h
    · cases h
    · rename_i d hd
      rcases List.mem_cons.1 h with rfl | h
      · exact hd
      · split at h
        · rename_i b _
          rcases List.mem_cons.1 h with h | h
          · exact absurd h (key_ne ht).1
          · cases hb : Nat.beq b d with
            | true =>
              rw [hb] at h
              rcases List.mem_cons.1 h with h | h
              · exact absurd h (key_ne ht).2
              · obtain ⟨s, hs⟩ := ders_kOff h; exact absurd hs (key_ne ht).1
            | false => rw [hb] at h; cases h
        · cases h
  · unfold storesTo at h
    split at h
    · split at h
      · rename_i b _
        rw [List.mem_singleton] at h; exact absurd h (key_ne ht).2
      · cases h
    · cases h
theorem boxB_of {oi ok : Oper} {T : TypeId} {s b : Nat} (ho : oi.op = .load T (.tmp s)) (hb : asc A.bx s = some b) (h : boxB A oi ok = true) : kBox b ∉ dk A ok ∧ kOff s ∉ dk A ok := by
  unfold boxB at h
  rw [ho] at h
  simp only [hb, Bool.and_eq_true, Bool.not_eq_true'] at h
  exact ⟨fun hh => by rw [(memB_iff _ _).2 hh] at h; exact absurd h.1 (by simp), fun hh => by rw [(memB_iff _ _).2 hh] at h; exact absurd h.2 (by simp)⟩
/-- another operation has put its value -/
theorem Stdy.put {o ok : Oper} {v u : Value} {e e' : Env} {a : Act} (h : Stdy P A o v e a) (hs : ∀ cs b, o.op ≠ .select cs b) (h1 : ∀ d, ok.dst = some d → d ∉ o.looksAt ops) (hf : Fr (dk A ok) e e') (hb : boxB A o ok = true) :
    Stdy P A o v e' (a.put ok.dst u) := by
  rcases h with h | ⟨T, s, b, q, ho, hsb, hq, h⟩
  · refine .inl fun w => ?_
    unfold Run1; rw [execOp_put o hs a ok.dst u h1]; exact h w
  · obtain ⟨k1, k2⟩ := boxB_of ho hsb hb
    exact .inr ⟨T, s, b, q, ho, hsb, by rw [hf _ k2]; exact hq, fun e2 he2 => h e2 (by rw [he2, hf _ k1])⟩
theorem YI.put {o ok : Oper} {i : Nat} {v u : Value} {e e' : Env} {a : Act} {H : Heap} {al al' : List Nat} (h : YI P A ops o i v e a H al) (hs : ∀ cs b, o.op ≠ .select cs b) (h1 : ∀ d, ok.dst = some d → d ∉ o.looksAt ops)
    (h2 : ∀ d, ok.dst = some d → o.dst ≠ some d) (hf : Fr (dk A ok) e e') (hb : boxB A o ok = true) (hal : ∀ j ∈ al, j ∈ al') : YI P A ops o i v e' (a.put ok.dst u) H al' := by
  unfold YI at h ⊢
  rw [wanted_put o a ok.dst u h1]
  rcases h with ⟨hw, h⟩ | h
  · refine .inl ⟨hw, ?_⟩
    rcases h with h | ⟨k1, k2, k3, k4⟩
    · exact .inl (h.put hs h1 hf hb)
    · refine .inr ⟨k1, hal _ k2, fun t ht => ?_, fun w hw => ?_⟩
      · obtain ⟨k5, k6⟩ := k3 t ht
        refine ⟨k5, ?_⟩
        rw [hf t fun hh => h2 t (dk_low (okT_iff.1 k5).1 hh) ht]; exact k6
      · unfold Run1; rw [execOp_put o hs a ok.dst u h1]; exact k4 w hw
  · exact .inr h
def InvL (P : Program) (A : Ann) (ops : Array Oper) (L : List (Nat × Value)) (al : List Nat) (listed : Array Bool) (e : Env) (a : Act) (H : Heap) : Prop :=
  ∀ p ∈ L, listed.getD p.1 false = true ∧ ∃ o, ops[p.1]? = some o ∧ YI P A ops o p.1 p.2 e a H al
/-- all readers that are still looked after read as they did -/
theorem revA_of {e : Env} {H : Heap} {K : Prop} {js : List Nat} (h : revA P A ops js e H K) : K ∧ ∀ j ∈ js, ∀ o, ops[j]? = some o → guardA A ops o e (fun e' => opL P o e'.eval H fun u => eqD o.dst e' u) (fun _ => True) := by
  induction js with
  | nil => exact ⟨h, fun j hj => by cases hj⟩
  | cons j r ih =>
    obtain ⟨h1, h2⟩ := h
    obtain ⟨h3, h4⟩ := ih h2
    refine ⟨h3, fun i hi o ho => ?_⟩
    rcases List.mem_cons.1 hi with rfl | hi
    · simp only [ho] at h1; exact h1
    · exact h4 i hi o ho
theorem revs_of {js : List Nat} {e : Env} {F : FF} {d : Bool} {H : Heap} {K : FF → Bool → Heap → Prop} {a : Act} {w : World} (hs : StD A n w0 F0 H0 e F d H a w) (h : revs P A ops js e F d H K) :
    ∃ F2 d2 H2, K F2 d2 H2 ∧ StD A n w0 F0 H0 e F2 d2 H2 a w ∧ Im F H F2 H2 ∧ ∀ j ∈ js, ∀ o, ops[j]? = some o → guardA A ops o e (fun e' => opL P o e'.eval w.heap fun u => eqD o.dst e' u) (fun _ => True) := by
  unfold revs at h
  split at h
  · exact ⟨F, d, H, h, hs, Im.refl _ _, fun j hj => by cases hj⟩
  · obtain ⟨G, st, h, him⟩ := hs.expo h
    obtain ⟨h1, h2⟩ := revA_of h
    exact ⟨G, false, w.heap, h1, StD.clean st, him, h2⟩
theorem isP_isL {op : Op} (h1 : isP P op = true) (h2 : isL P op = true) : False := by
  unfold isL at h2
  split at h2
  · simp [isP] at h1
  · simp [isP] at h1
  · unfold isP at h1
    simp only at h1
    split at h1 <;> simp_all
  · simp_all [isP]
  · cases h2
theorem vcD_sound {W : List Nat} {N : Act → World → Prop} {K : Env → FF → Bool → Heap → Prop} (hsane : Sane P A ops W) (hW : ∀ i k, wtB W i k = true → Wt ops i k) :
    ∀ (f : Nat) (al : List Nat) (L : List (Nat × Value)) (listed : Array Bool) (e : Env) (F : FF) (d : Bool) (H : Heap) (a : Act) (w : World),
      (∀ e' F' d' H' a' w', StD A n w0 F0 H0 e' F' d' H' a' w' → K e' F' d' H' → Fr (dkL A ops.toList) e e' → Im F H F' H' → N a' w') →
      Closed .any ops listed → StD A n w0 F0 H0 e F d H a w → InvL P A ops L al listed e a w.heap → vcD P A n ops W f al listed e F d H K → wpAnyL P ops (labA P A ops) W N f L listed a w := by
  have sub : ∀ (j : Nat) (o : Oper), ops[j]? = some o → ∀ t ∈ dk A o, t ∈ dkL A ops.toList := fun j o ho t ht => by
    have hm : o ∈ ops.toList := by simpa using Array.mem_of_getElem? ho
    generalize ops.toList = l at hm
    induction l with
    | nil => cases hm
    | cons x r ih =>
      simp only [dkL, List.mem_append]
      rcases List.mem_cons.1 hm with rfl | hm
      · exact .inl ht
      · exact .inr (ih hm)
  intro f
  induction f with
  | zero =>
    intro al L listed e F d H a w hK inv hs hI h
    simp only [vcD] at h
    cases hr : (Region.ready .any ops listed).isEmpty with
    | false => rw [hr] at h; exact h.elim
    | true => rw [hr] at h; exact ⟨by simpa using hr, hK _ _ _ _ _ _ hs h (Fr.refl _ _) (Im.refl _ _)⟩
  | succ f ih =>
    intro al L listed e F d H a w hK inv hs hI h
    simp only [vcD] at h
    split at h
    · -- a quiet one is taken
      rename_i j hj
      obtain ⟨hjr, hlab⟩ := firstQ_of hj
      obtain ⟨hjun, oj, hoj, hall⟩ := mem_ready.1 hjr
      simp only [hoj] at h
      have hLne : ∀ p ∈ L, p.1 ≠ j := fun p hp e => by
        have h1 := (hI p hp).1
        rw [e, getD_both hjun] at h1; cases h1
      have hnw : ∀ p ∈ L, wtB W p.1 j = false := fun p hp => by
        cases hb : wtB W p.1 j with
        | false => rfl
        | true =>
          have h1 := (hW _ _ hb).listed inv (hI p hp).1
          rw [getD_both hjun] at h1; cases h1
      have hlook : ∀ p ∈ L, ∀ o, ops[p.1]? = some o → ∀ d, oj.dst = some d → d ∉ o.looksAt ops := fun p hp o ho d hd hl => by
        have := hsane.look p.1 j o oj d (hLne p hp) ho hoj hd hl
        rw [hnw p hp] at this; cases this
      have hboxL : ∀ p ∈ L, ∀ o, ops[p.1]? = some o → boxB A o oj = true := fun p hp o ho => by
        rcases hsane.box p.1 j o oj (hLne p hp) ho hoj with h | h | ⟨_, h⟩
        · rw [hnw p hp] at h; cases h
        · exact h
        · rw [hlab] at h; cases h
      have invN : ∀ {e' : Env} {u v : Value} {al' : List Nat}, u = v → Fr (dk A oj) e e' → (∀ j ∈ al, j ∈ al') → YI P A ops oj j v e' (a.put oj.dst u) w.heap al' →
          InvL P A ops ((j, v) :: L) al' (listed.setIfInBounds j true) e' (a.put oj.dst u) w.heap := fun {e' u v al'} huv hf hal hy p hp => by
        rcases List.mem_cons.1 hp with rfl | hp
        · refine ⟨?_, oj, hoj, hy⟩
          have hsz : j < listed.size := by
            rcases Nat.lt_or_ge j listed.size with h | h
            · exact h
            · simp [Array.getElem?_eq_none h] at hjun
          simp [hsz]
        · obtain ⟨h1, o, ho, h2⟩ := hI p hp
          exact ⟨getD_set_true h1, o, ho, h2.put (fun cs b => hsane.sel _ o cs b ho) (hlook p hp o ho) (fun d hd => hsane.dst p.1 j o oj d (hLne p hp) ho hoj hd) hf (hboxL p hp o ho) hal⟩
      obtain ⟨G, st, _⟩ := hs.st
      obtain ⟨e1, hsame, h | h⟩ := guardA_of st.eo h
      · obtain ⟨hw, h⟩ := h
        obtain ⟨v, e', F', d', H', hy, hk, hs', hf, him⟩ := seeA_of (hs.same hsame) h
        have hf : Fr (dk A oj) e e' := fun t ht => (hf t ht).trans (hsame t)
        have hself : ∀ d, oj.dst = some d → d ∉ oj.looksAt ops := fun d hd => hsane.self j oj d hoj hd
        have hyw : YW P ops oj v a w.heap := by
          refine .inl ⟨hw, ?_⟩
          rcases hy with hy | ⟨_, _, hy⟩
          · obtain ⟨G1, st1, _⟩ := (hs.same hsame).st
            exact hy.run st1.bx
          · exact hy
        refine anyL_first hsane hW hoj f L listed a w inv hlook hjr hyw (ih _ ((j, v) :: L) _ e' F' d' H' _ w (fun e2 F2 d2 H2 a2 w2 hs2 hk2 hf2 him2 => hK e2 F2 d2 H2 a2 w2 hs2 hk2 (fun t ht => (hf2 t ht).trans (hf t fun hh => ht (sub j oj hoj t hh))) (him.trans him2)) (inv.set hjr) hs' ?_ hk) hlab
        refine invN rfl hf (fun i hi => by cases isQu P A oj <;> simp [hi]) ?_
        refine .inl ⟨by rw [wanted_put oj a oj.dst v hself]; exact hw, ?_⟩
        rcases hy with hy | ⟨k1, k2, hy⟩
        · refine .inl ?_
          -- after its own value has been put
          rcases hy with hy | ⟨T, s, b, q, ho, hsb, hq, hy⟩
          · exact .inl fun w' => by unfold Run1; rw [execOp_put oj (fun cs b => hsane.sel _ oj cs b hoj) a oj.dst v hself]; exact hy w'
          · have hkk : kBox b ∉ dk A oj ∧ kOff s ∉ dk A oj := by
              have hs0 : s ∈ oj.looksAt ops := by
                unfold Oper.looksAt
                rw [ho]
                simp [Op.operands]
              have hdn : ∀ t, oj.dst = some t → t ≠ s := fun t ht e => hself t ht (by rw [e]; exact hs0)
              have ha : oj.dst = none ∨ ∃ t, oj.dst = some t ∧ asc A.bx t = none := by
                cases hd : oj.dst with
                | none => exact .inl rfl
                | some t =>
                  refine .inr ⟨t, rfl, ?_⟩
                  -- a load's slot is no hidden variable's: it was put
                  have hq2 : isBoxOp A oj.op = true := by unfold isBoxOp; rw [ho]; simp [hsb]
                  unfold seeA isQu at h
                  rw [hq2] at h
                  simp only [Bool.true_or, cond_true] at h
                  unfold quA at h
                  rw [hq2] at h
                  simp only [cond_true, ho] at h
                  obtain ⟨b2, q2, _, _, h⟩ := baseA_of h
                  obtain ⟨v2, h, _⟩ := boxLoad_val h
                  exact (okT_iff.1 (putA_ok hd h).2).2
              unfold dk storesTo
              rw [ho]
              simp only [List.append_nil]
              rcases ha with ha | ⟨t, ha, ha2⟩
              · rw [ha]; exact ⟨by simp, by simp⟩
              · have hok : t < 1000000 := by
                  have hq2 : isBoxOp A oj.op = true := by unfold isBoxOp; rw [ho]; simp [hsb]
                  unfold seeA isQu at h
                  rw [hq2] at h
                  simp only [Bool.true_or, cond_true] at h
                  unfold quA at h
                  rw [hq2] at h
                  simp only [cond_true, ho] at h
                  obtain ⟨b2, q2, _, _, h⟩ := baseA_of h
                  obtain ⟨v2, h, _⟩ := boxLoad_val h
                  exact (okT_iff.1 (putA_ok ha h).2).1
                rw [ha]
                simp only [ha2, List.mem_cons, List.not_mem_nil, or_false]
                exact ⟨fun e => (key_ne hok).2 e.symm, fun e => (key_ne hok).1 e.symm⟩
            exact .inr ⟨T, s, b, q, ho, hsb, by rw [hf _ hkk.2, ← hsame]; exact hq, fun e2 he2 => hy e2 (by rw [he2, hf _ hkk.1, hsame])⟩
        · -- it may be that it is both: then it is steady
          cases hqq : isQu P A oj with
          | true =>
            obtain ⟨G2, st2, _⟩ := (hs.same hsame).st
            unfold seeA at h
            rw [hqq] at h
            simp only [isRd, Bool.and_eq_true] at k1
            -- clean and both pure and a reader: there is none such
            exfalso
            have hc := k1.1
            have hl := k1.2
            unfold isQu at hqq
            rw [Bool.or_eq_true, Bool.and_eq_true] at hqq
            rcases hqq with hq | ⟨_, hq⟩
            · unfold isBoxOp at hq
              split at hq <;> first
                | (rename_i s ho
                   rw [clean, ho] at hc
                   obtain ⟨x, hx⟩ := Option.isSome_iff_exists.1 hq
                   simp [Op.operands, allB, okO, okT, hx] at hc)
                | cases hq
            · exact isP_isL hq hl
          | false =>
            refine .inr ⟨k1, by simp, fun t ht => k2 t ht, fun w' hw' => ?_⟩
            unfold Run1; rw [execOp_put oj (fun cs b => hsane.sel _ oj cs b hoj) a oj.dst v hself]; exact hy w' hw'
      · obtain ⟨hw, h⟩ := h
        obtain ⟨e2, hs2, hk2, hf2⟩ := (hs.same hsame).putU h
        have hf : Fr (dk A oj) e e2 := fun t ht => (hf2 t ht).trans (hsame t)
        have hself : ∀ d, oj.dst = some d → d ∉ oj.looksAt ops := fun d hd => hsane.self j oj d hoj hd
        refine anyL_first hsane hW hoj f L listed a w inv hlook hjr (.inr ⟨hw, rfl⟩) (ih _ ((j, undef) :: L) _ e2 F d H _ w (fun e3 F3 d3 H3 a3 w3 hs3 hk3 hf3 him3 => hK e3 F3 d3 H3 a3 w3 hs3 hk3 (fun t ht => (hf3 t ht).trans (hf t fun hh => ht (sub j oj hoj t hh))) him3) (inv.set hjr) hs2 ?_ hk2) hlab
        exact invN rfl hf (fun i hi => hi) (.inr ⟨by rw [wanted_put oj a oj.dst undef hself]; exact hw, rfl⟩)
    · -- none but loud ones
      rename_i hnone
      have hloud := firstQ_none hnone
      split at h
      · rename_i hr
        exact ⟨fun _ => hK _ _ _ _ _ _ hs h (Fr.refl _ _) (Im.refl _ _), fun i hi => by rw [hr] at hi; cases hi⟩
      · rename_i k0 r0 hr
        have hall := allR_of h
        refine ⟨fun h0 => (by rw [hr] at h0; cases h0), fun k hk => ?_⟩
        have hkr := hk
        rw [hr] at hk
        have h := hall k hk
        obtain ⟨hkun, ok, hok, _⟩ := mem_ready.1 hkr
        simp only [hok] at h
        have hlab := hloud k hkr
        have hLne : ∀ p ∈ L, p.1 ≠ k := fun p hp e => by
          have h1 := (hI p hp).1
          rw [e, getD_both hkun] at h1; cases h1
        have hnw : ∀ p ∈ L, wtB W p.1 k = false := fun p hp => by
          cases hb : wtB W p.1 k with
          | false => rfl
          | true =>
            have h1 := (hW _ _ hb).listed inv (hI p hp).1
            rw [getD_both hkun] at h1; cases h1
        have hlook : ∀ p ∈ L, ∀ o, ops[p.1]? = some o → ∀ d, ok.dst = some d → d ∉ o.looksAt ops := fun p hp o ho d hd hl => by
          have := hsane.look p.1 k o ok d (hLne p hp) ho hok hd hl
          rw [hnw p hp] at this; cases this
        have hboxL : ∀ p ∈ L, wtB W k p.1 = false → ∀ o, ops[p.1]? = some o → boxB A o ok = true := fun p hp hkp o ho => by
          rcases hsane.box p.1 k o ok (hLne p hp) ho hok with h | h | ⟨h, _⟩
          · rw [hnw p hp] at h; cases h
          · exact h
          · rw [hkp] at h; cases h
        obtain ⟨G, st, _⟩ := hs.st
        obtain ⟨e1, hsame, h | h⟩ := guardA_of st.eo h
        · obtain ⟨hw, h⟩ := h
          unfold wpOp
          simp only [hok, hw, if_true]
          refine .inl (loudA_wp (hs.same hsame) h fun e' F' d' H' u w' hs' hk' hf him => ?_)
          have hf : Fr (dk A ok) e e' := fun t ht => (hf t ht).trans (hsame t)
          obtain ⟨F2, d2, H2, hk2, hs2, him2, hrev⟩ := revs_of hs' hk'
          rw [if_neg (by rw [hlab]; simp)]
          have hyi : ∀ p ∈ L, wtB W k p.1 = false → ∃ o, ops[p.1]? = some o ∧ YI P A ops o p.1 p.2 e' (a.put ok.dst u) w'.heap (keepW W k al) := fun p hp hkp => by
            obtain ⟨_, o, ho, hy⟩ := hI p hp
            refine ⟨o, ho, ?_⟩
            have hsel := fun cs b => hsane.sel _ o cs b ho
            have h1 := hlook p hp o ho
            unfold YI at hy ⊢
            rw [wanted_put o a ok.dst u h1]
            rcases hy with ⟨hwt, hy⟩ | hy
            · refine .inl ⟨hwt, ?_⟩
              rcases hy with hy | ⟨k1, k2, k3, k4⟩
              · exact .inl (hy.put hsel h1 hf (hboxL p hp hkp o ho))
              · have hmem := mem_keepW (W := W) (k := k) k2 hkp
                have k3' : ∀ t, o.dst = some t → okT A t = true ∧ e'.get t = p.2 := fun t ht => by
                  obtain ⟨k5, k6⟩ := k3 t ht
                  refine ⟨k5, ?_⟩
                  rw [hf t fun hh => hsane.dst p.1 k o ok t (hLne p hp) ho hok (dk_low (okT_iff.1 k5).1 hh) ht]; exact k6
                refine .inr ⟨k1, hmem, k3', fun w2 hw2 => ?_⟩
                obtain ⟨G2, st2, _⟩ := hs2.st
                obtain ⟨e4, hsame4, h4 | h4⟩ := guardA_of st2.eo (hrev p.1 hmem o ho)
                · obtain ⟨_, h4⟩ := h4
                  obtain ⟨x, hx, hrun⟩ := opL_run h4
                  have hc : clean A o = true := by simp only [isRd, Bool.and_eq_true] at k1; exact k1.1
                  have hrun := hrun w2 hw2
                  have hex := (st2.eo.same hsame4).exec hc
                  unfold Run1 at hrun ⊢
                  rw [← hex] at hrun
                  cases hd : o.dst with
                  | none =>
                    rw [hd] at hx; exact hx.elim
                  | some t =>
                    have hx : e4.get t = x := by rw [hd] at hx; exact hx
                    rw [hsame4, (k3' t hd).2] at hx
                    rw [hx]; exact hrun
                · obtain ⟨hwf, _⟩ := h4
                  rw [wanted_put o a ok.dst u h1, hwt] at hwf; cases hwf
            · exact .inr hy
          obtain ⟨G2, st2, _⟩ := hs2.st
          refine ⟨fun p hp => ?_, ih _ _ _ e' F2 d2 H2 _ w' (fun e3 F3 d3 H3 a3 w3 hs3 hk3 hf3 him3 => hK e3 F3 d3 H3 a3 w3 hs3 hk3 (fun t ht => (hf3 t ht).trans (hf t fun hh => ht (sub k ok hok t hh))) ((him.trans him2).trans him3)) (inv.set hkr) hs2 ?_ hk2⟩
          · cases hkp : wtB W k p.1 with
            | true => exact .inl rfl
            | false =>
              obtain ⟨o, ho, hy⟩ := hyi p hp hkp
              exact .inr ⟨o, ho, hy.yw st2.bx⟩
          · intro p hp
            obtain ⟨hp1, hp2⟩ := List.mem_filter.1 hp
            obtain ⟨o, ho, hy⟩ := hyi p hp1 (by simpa using hp2)
            exact ⟨getD_set_true (hI p hp1).1, o, ho, hy⟩
        · obtain ⟨hw, h⟩ := h
          unfold wpOp
          simp only [hok, hw, Bool.false_eq_true, if_false]
          rw [if_neg (by rw [hlab]; simp)]
          obtain ⟨e2, hs2, hk2, hf2⟩ := (hs.same hsame).putU h
          have hf : Fr (dk A ok) e e2 := fun t ht => (hf2 t ht).trans (hsame t)
          have hyi : ∀ p ∈ L, wtB W k p.1 = false → ∃ o, ops[p.1]? = some o ∧ YI P A ops o p.1 p.2 e2 (a.put ok.dst undef) w.heap (keepW W k al) := fun p hp hkp => by
            obtain ⟨_, o, ho, hy⟩ := hI p hp
            refine ⟨o, ho, ?_⟩
            have hsel := fun cs b => hsane.sel _ o cs b ho
            have h1 := hlook p hp o ho
            have h2 : ∀ d, ok.dst = some d → o.dst ≠ some d := fun d hd => hsane.dst p.1 k o ok d (hLne p hp) ho hok hd
            have hy' := hy.put (u := undef) (al' := al) hsel h1 h2 hf (hboxL p hp hkp o ho) (fun _ h => h)
            rcases hy' with ⟨hwt, hy' | ⟨k1, k2, k3, k4⟩⟩ | hy'
            · exact .inl ⟨hwt, .inl hy'⟩
            · exact .inl ⟨hwt, .inr ⟨k1, mem_keepW k2 hkp, k3, k4⟩⟩
            · exact .inr hy'
          obtain ⟨G2, st2, _⟩ := hs2.st
          refine ⟨fun p hp => ?_, ih _ _ _ e2 F d H _ w (fun e3 F3 d3 H3 a3 w3 hs3 hk3 hf3 him3 => hK e3 F3 d3 H3 a3 w3 hs3 hk3 (fun t ht => (hf3 t ht).trans (hf t fun hh => ht (sub k ok hok t hh))) him3) (inv.set hkr) hs2 ?_ hk2⟩
          · cases hkp : wtB W k p.1 with
            | true => exact .inl rfl
            | false =>
              obtain ⟨o, ho, hy⟩ := hyi p hp hkp
              exact .inr ⟨o, ho, hy.yw st2.bx⟩
          · intro p hp
            obtain ⟨hp1, hp2⟩ := List.mem_filter.1 hp
            obtain ⟨o, ho, hy⟩ := hyi p hp1 (by simpa using hp2)
            exact ⟨getD_set_true (hI p hp1).1, o, ho, hy⟩
end
end Go.V2
