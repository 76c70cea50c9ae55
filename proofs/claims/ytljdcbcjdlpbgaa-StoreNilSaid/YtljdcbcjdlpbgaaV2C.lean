/-
  Parts of a proof: see the row.
-/
import Derived.Test.YtljdcbcjdlpbgaaV2B
set_option linter.unusedVariables false
set_option linter.unusedSimpArgs false
namespace Go.V2
open Go.Vc

/-! ## quiet operations -/
section
variable {P : Program} {A : Ann} {n : Nat} {w0 : World} {F0 : FF} {H0 : Heap}
theorem bxK_val {kd : Kind} {cs : Array Value} {o : Nat} {K : Value → Prop} (h : bxK kd cs o K) : ∃ v, K v ∧ bxK kd cs o fun u => u = v := by
  cases kd
  case agg => exact h.elim
  case sl => obtain ⟨p, n, c, h1, h2⟩ := h; exact ⟨_, h2, p, n, c, h1, rfl⟩
  all_goals obtain ⟨n, h1, h2⟩ := h; exact ⟨_, h2, n, h1, rfl⟩
theorem getA_val {sy : Bool} {kd : Kind} {cs : Array Value} {o : Nat} {K : Value → Prop} (h : getA sy kd cs o K) : ∃ v, K v ∧ getA sy kd cs o fun u => u = v := by
  cases sy with
  | true => exact bxK_val h
  | false =>
    simp only [getA, cond_false, optK] at h ⊢
    split at h
    · rename_i v hv; exact ⟨v, h, by simp⟩
    · exact h.elim
theorem cutA_val {sy vx : Bool} {cs : Array Value} {o k sz : Nat} {K : Value → Prop} (h : cutA sy vx cs o k sz K) : ∃ v, K v ∧ cutA sy vx cs o k sz fun u => u = v := by
  unfold cutA at h ⊢
  cases hb : (Nat.beq o 0 && Nat.beq k sz) with
  | true => rw [hb] at h; exact ⟨_, h, rfl⟩
  | false =>
    rw [hb] at h
    simp only [cond_false] at h ⊢
    obtain ⟨hle, h⟩ := leA_of h
    refine ⟨_, h, ?_⟩
    unfold leA
    cases vx with
    | true => exact ⟨hle, rfl⟩
    | false => simp only [cond_false]; rw [Nat.ble_eq.mpr hle]; trivial
theorem boxLoad_val {T : TypeId} {b o : Nat} {e : Env} {K : Value → Prop} (h : boxLoad P A T b o e K) :
    ∃ v, K v ∧ ∀ e' : Env, e'.get (kBox b) = e.get (kBox b) → boxLoad P A T b o e' fun u => u = v := by
  obtain ⟨cs, sz, hcs, hsz, h⟩ := contA_of h
  have key : ∀ v, (cond (aggB P T) (cond (P.info? T).isSome (cutA (memB A.sy b) (memB A.vx b) cs o (P.cellsOf T) sz (fun u => u = v)) False) (cond (P.underlying T).isSome (getA (memB A.sy b) (kind1 P T) cs o (fun u => u = v)) False)) →
      ∀ e' : Env, e'.get (kBox b) = e.get (kBox b) → boxLoad P A T b o e' fun u => u = v := fun v hv e' he => by
    unfold boxLoad contA; rw [he, hcs, hsz]; exact hv
  cases hb : aggB P T with
  | true =>
    rw [hb] at h key
    cases hl : (P.info? T).isSome with
    | false => rw [hl] at h; exact h.elim
    | true =>
      rw [hl] at h key
      obtain ⟨v, hv, h⟩ := cutA_val h
      exact ⟨v, hv, key v h⟩
  | false =>
    rw [hb] at h key
    cases hl : (P.underlying T).isSome with
    | false => rw [hl] at h; exact h.elim
    | true =>
      rw [hl] at h key
      obtain ⟨v, hv, h⟩ := getA_val h
      exact ⟨v, hv, key v h⟩
def isBoxLd (A : Ann) : Op → Bool
  | .load _ (.tmp s) => (asc A.bx s).isSome
  | _ => false
/-- a quiet operation's value, now and later -/
def Stdy (P : Program) (A : Ann) (o : Oper) (v : Value) (e : Env) (a : Act) : Prop :=
  (∀ w, Run1 P o a.eval w v) ∨ ∃ T s b q, o.op = .load T (.tmp s) ∧ asc A.bx s = some b ∧ e.get (kOff s) = goff q ∧ ∀ e' : Env, e'.get (kBox b) = e.get (kBox b) → boxLoad P A T b q e' fun u => u = v
theorem Stdy.run {B : Nat} {o : Oper} {v : Value} {e : Env} {F : FF} {H : Heap} {a : Act} (hbx : BX A B e F H a) (h : Stdy P A o v e a) : ∀ w : World, w.heap = H → Run1 P o a.eval w v := by
  rcases h with h | ⟨T, s, b, q, ho, hs, hq, h⟩
  · exact fun w _ => h w
  · obtain ⟨u, rfl, hr⟩ := boxLoad_run hbx hs hq (h e rfl)
    intro w hw
    refine .inl ?_
    simp [execOp, ho, hr w hw]
theorem quA_of {B : Nat} {o : Oper} {e : Env} {F : FF} {H : Heap} {a : Act} {K : Env → Prop} (he : EO A n e a) (hbx : BX A B e F H a) (h : quA P A n o e K) :
    ∃ v e', Stdy P A o v e a ∧ K e' ∧ EO A n e' (a.put o.dst v) ∧ (∀ B F H, BX A B e F H a → BX A B e' F H (a.put o.dst v)) ∧ Fr (dk A o) e e' := by
  unfold quA at h
  cases hb : isBoxOp A o.op with
  | true =>
    rw [hb] at h
    simp only [cond_true] at h
    split at h
    · rename_i T s ho
      obtain ⟨b, q, h1, h2, h⟩ := baseA_of h
      obtain ⟨v, hk, hr⟩ := boxLoad_val h
      obtain ⟨e', h3, h4, h5, h6⟩ := putA_of he hk
      exact ⟨v, e', .inr ⟨T, s, b, q, ho, h1, h2, hr⟩, h4, h3, h6, h5.mono dst_dk⟩
    · obtain ⟨b, q, h, hr⟩ := derA_run he h
      unfold adrK at h
      split at h
      · rename_i t ht
        cases hc : (Nat.blt t n && Nat.blt t 1000000) with
        | false => rw [hc] at h; exact h.elim
        | true =>
          rw [hc] at h
          simp only [Bool.and_eq_true] at hc
          have hc1 : t < n := Nat.blt_eq.mp hc.1
          have hc2 : t < 1000000 := Nat.blt_eq.mp hc.2
          simp only [cond_true] at h
          split at h
          · rename_i b' hb'
            cases hbb : Nat.beq b b' with
            | false => rw [hbb] at h; exact h.elim
            | true =>
              rw [hbb] at h
              have := Nat.eq_of_beq_eq_true hbb
              subst this
              obtain ⟨cs, sz, hcs, hsz, h⟩ := contA_of h
              obtain ⟨ρ, k1, k2, k3⟩ := hbx
              have hr' := hr cs hcs ρ k3
              have hts : t < a.tmps.size := by rw [he.size]; exact hc1
              refine ⟨.pointer (some ⟨ρ b, q, none⟩), _, .inl fun w => .inl (hr' w), h, ⟨by simp [Act.put, ht, he.size], fun u hu => ?_, by rw [ht]; exact he.defers⟩, ?_, Fr.put _ (by unfold dk; rw [ht]; simp only [hb']; simp)⟩
              · obtain ⟨hu1, hu2⟩ := okT_iff.1 hu
                rw [Env.get_put, if_neg (by have := (key_ne (s := t) hu1).1; omega), he.get u hu, ht]
                simp only [Act.put]
                rw [Go.Vc.getD_set _ _ _ _ hts, if_neg (by rintro rfl; rw [hb'] at hu2; cases hu2)]
              · rintro B' F' H' ⟨ρ', m1, m2, m3⟩
                have hρ : ρ' b = ρ b := by
                  -- both name the block of the same slot: t's own pointer was made from one of the slots that are known
                  have e1 := hr cs hcs ρ' m3 default
                  rw [hr' default] at e1
                  injection e1 with e1
                  injection e1 with e1
                  injection e1 with e1
                  injection e1 with e1
                  injection e1 with e1
                  exact e1.symm
                have hne : ∀ s, (e.put (kOff t) (goff q)).get (kBox s) = e.get (kBox s) := fun s => by
                  rw [Env.get_put, if_neg (by unfold kOff kBox; omega)]
                refine ⟨ρ', fun s cs hs => m1 s cs (by rw [← hne]; exact hs), fun s s' cs cs' hs hs' => m2 s s' cs cs' (by rw [← hne]; exact hs) (by rw [← hne]; exact hs'), fun u d o' cs' hu ho hd => ?_⟩
                rw [hne] at hd
                rw [ht]
                simp only [Act.put]
                rw [Go.Vc.getD_set _ _ _ _ hts]
                rw [Env.get_put] at ho
                by_cases hut : u = t
                · subst hut
                  rw [if_pos rfl] at ho ⊢
                  rw [hb'] at hu
                  injection hu with hu
                  subst hu
                  rw [hρ, goff_inj ho]
                · rw [if_neg (by unfold kOff; omega)] at ho
                  rw [if_neg (by omega)]
                  exact m3 u d o' cs' hu ho hd
          · exact h.elim
      · exact h.elim
  | false =>
    rw [hb] at h
    simp only [cond_false] at h
    cases hc : clean A o with
    | false => rw [hc] at h; exact h.elim
    | true =>
      rw [hc] at h
      simp only [cond_true] at h
      obtain ⟨v, hk, hr⟩ := opP_run h
      obtain ⟨e', h3, h4, h5, h6⟩ := putA_of he hk
      exact ⟨v, e', .inl fun w => by unfold Run1; rw [he.exec hc]; exact hr w, h4, h3, h6, h5.mono dst_dk⟩

/-! ## loud operations -/
def boxNewAt (A : Ann) (o : Oper) : Option Nat := match o.dst with
  | some t => (match o.op with
    | .alloc _ | .box _ _ => (match asc A.bx t with | some b => cond (Nat.beq b t) (some t) none | none => none)
    | _ => none)
  | none => none
def clr : List Nat → Env → Env
  | [], e => e
  | k :: r, e => clr r (e.put k undef)
theorem clr_get (l : List Nat) : ∀ (e : Env) (k : Nat), (clr l e).get k = e.get k ∨ (k ∈ l ∧ (clr l e).get k = undef) := by
  induction l with
  | nil => exact fun e k => .inl rfl
  | cons x r ih =>
    intro e k
    simp only [clr]
    rcases ih (e.put x undef) k with h | ⟨h1, h2⟩
    · rw [h, Env.get_put]
      by_cases hx : x = k
      · subst hx; rw [if_pos rfl]; exact .inr ⟨by simp, rfl⟩
      · rw [if_neg hx]; exact .inl rfl
    · exact .inr ⟨by simp [h1], h2⟩
theorem clr_mem (l : List Nat) : ∀ (e : Env) (k : Nat), k ∈ l → (clr l e).get k = undef := by
  induction l with
  | nil => intro e k h; cases h
  | cons x r ih =>
    intro e k h
    simp only [clr]
    by_cases hk : k ∈ r
    · exact ih _ k hk
    · have hx : k = x := by rcases List.mem_cons.1 h with h | h; exact h; exact absurd h hk
      subst hx
      rcases clr_get r (e.put k undef) k with h | ⟨h1, _⟩
      · rw [h, Env.get_put, if_pos rfl]
      · exact absurd h1 hk
def newA (A : Ann) (n t m : Nat) (cs : Array Value) (e : Env) (K : Env → Prop) : Prop :=
  cond (Nat.blt t n && Nat.blt t 1000000) (match asc A.bs t with
    | some sz => sizeA false m sz (K (((clr (ders A.bx t) e).put (kOff t) (goff 0)).put (kBox t) (.agg cs)))
    | none => False) False
def litK (z : Value) (K : Array Value → Prop) : Prop := match z with
  | .agg cs => K cs
  | v => K #[v]
theorem litK_of {z : Value} {K : Array Value → Prop} (h : litK z K) : K z.cells := by
  unfold litK at h; split at h
  · exact h
  · rename_i hne; cases z <;> first | exact h | exact absurd rfl (hne _)
def boxMake (P : Program) (A : Ann) (n : Nat) (op : Op) (t : Nat) (e : Env) (K : Env → Prop) : Prop := match op with
  | .alloc T => zeroOf P T fun z => litK z fun cs => newA A n t cs.size cs e K
  | .box T x => cond (okO A x) (cond (memB A.sy t && aggB P T) (agA (e.eval x) (P.cellsOf T) fun cs => newA A n t (P.cellsOf T) cs e K) (litK (e.eval x) fun cs => newA A n t cs.size cs e K)) False
  | _ => False
theorem ders_kOff {l : List (Nat × Nat)} {b k : Nat} (h : k ∈ ders l b) : ∃ t, k = kOff t := by
  induction l with
  | nil => cases h
  | cons p r ih =>
    obtain ⟨s, d⟩ := p
    simp only [ders] at h
    cases hb : Nat.beq d b with
    | true =>
      rw [hb] at h
      rcases List.mem_cons.1 h with rfl | h
      · exact ⟨_, rfl⟩
      · exact ih h
    | false => rw [hb] at h; exact ih h
theorem boxMake_wp' {o : Oper} {t : Nat} {e : Env} {F : FF} {d : Bool} {H : Heap} {a : Act} {w : World} {K : Env → Prop} {next : Act → World → Prop} {Q : Exit → Act → World → Prop}
    (hs : StD A n w0 F0 H0 e F d H a w) (ht : boxNewAt A o = some t) (h : boxMake P A n o.op t e K)
    (hn : ∀ e' u w', StD A n w0 F0 H0 e' F true H (a.put o.dst u) w' → K e' → Fr (dk A o) e e' → next (a.put o.dst u) w') : o.wp P a w next Q := by
  have hd : o.dst = some t ∧ asc A.bx t = some t := by
    unfold boxNewAt at ht
    split at ht
    · rename_i t' hd
      split at ht
      all_goals first
        | (split at ht
           · rename_i b hb
             cases hbb : Nat.beq b t' with
             | true =>
               rw [hbb] at ht
               have := Nat.eq_of_beq_eq_true hbb
               subst this
               simp only [cond_true, Option.some.injEq] at ht
               subst ht
               exact ⟨hd, hb⟩
             | false => rw [hbb] at ht; cases ht
           · cases ht)
        | cases ht
    · cases ht
  obtain ⟨hd, hbt⟩ := hd
  obtain ⟨G, st, sto⟩ := hs.st
  -- what the operation does
  have main : ∀ (T : TypeId) (cs : Array Value), (execOp a.eval o).run P w = .ok (.value (.pointer (some ⟨w.heap.size, 0, none⟩))) { w with heap := w.heap.push (.cells cs T) } → newA A n t cs.size cs e K → o.wp P a w next Q := by
    intro T cs hr h
    unfold newA at h
    cases hc : (Nat.blt t n && Nat.blt t 1000000) with
    | false => rw [hc] at h; exact h.elim
    | true =>
    rw [hc] at h
    simp only [Bool.and_eq_true] at hc
    have hc1 : t < n := Nat.blt_eq.mp hc.1
    have hc2 : t < 1000000 := Nat.blt_eq.mp hc.2
    simp only [cond_true] at h
    split at h
    case h_2 => exact h.elim
    rename_i sz hsz
    obtain ⟨hsz2, h⟩ := sizeA_of h
    have hts : t < a.tmps.size := by rw [st.eo.size]; exact hc1
    unfold Oper.wp
    rw [hr]
    simp only [Oper.upon]
    let G' : FF := ⟨G.w, fun k => G.x k ∨ k = w.heap.size⟩
    have hlow : ∀ k, k < 1000000 → (((clr (ders A.bx t) e).put (kOff t) (goff 0)).put (kBox t) (.agg cs)).get k = e.get k := fun k hk => by
      rw [Env.get_put, if_neg (by have := (key_ne (s := t) hk).2; omega), Env.get_put, if_neg (by have := (key_ne (s := t) hk).1; omega)]
      rcases clr_get (ders A.bx t) e k with h | ⟨h1, _⟩
      · exact h
      · obtain ⟨s, rfl⟩ := ders_kOff h1; unfold kOff at hk; omega
    have hbox : ∀ b, (((clr (ders A.bx t) e).put (kOff t) (goff 0)).put (kBox t) (.agg cs)).get (kBox b) = if b = t then .agg cs else (clr (ders A.bx t) e).get (kBox b) := fun b => by
      rw [Env.get_put]
      by_cases hbt' : b = t
      · subst hbt'; rw [if_pos rfl, if_pos rfl]
      · rw [if_neg (by unfold kBox; omega), if_neg hbt', Env.get_put, if_neg (by unfold kOff kBox; omega)]
    have hboxe : ∀ b cs', b ≠ t → (((clr (ders A.bx t) e).put (kOff t) (goff 0)).put (kBox t) (.agg cs)).get (kBox b) = .agg cs' → e.get (kBox b) = .agg cs' := fun b cs' hb hh => by
      rw [hbox, if_neg hb] at hh
      rcases clr_get (ders A.bx t) e (kBox b) with h | ⟨_, h1⟩
      · rw [← h]; exact hh
      · rw [h1] at hh; cases hh
    refine hn _ _ _ (StD.dirty (F' := G') ?_ ⟨?_, ⟨st.ag.tape, st.ag.os, st.ag.output⟩, rfl, ?_, ?_, ?_⟩) h ?_
    · refine ⟨by simp; exact Nat.le_trans sto.size (Nat.le_succ _), fun k hk hh => ?_, sto.w, fun k hk => .inl (sto.xin k hk), fun k hk => ?_⟩
      · have := sto.size
        rw [hpush_old _ (by omega)]; exact sto.out k hk hh
      · rcases hk with hk | hk
        · exact sto.xfp k hk
        · right; rw [hk]; exact sto.size
    · refine ⟨by simp [Act.put, hd, st.eo.size], fun u hu => ?_, by rw [hd]; exact st.eo.defers⟩
      obtain ⟨hu1, hu2⟩ := okT_iff.1 hu
      rw [hlow u hu1, st.eo.get u hu, hd]
      simp only [Act.put]
      rw [Go.Vc.getD_set _ _ _ _ hts, if_neg (by rintro rfl; rw [hbt] at hu2; cases hu2)]
    · refine st.xt.trans ⟨by simp, fun k hk _ => hpush_old _ hk, fun k hk => .inl hk, fun k hk => .inl hk, fun k hk => hk.imp id fun h => by omega⟩
    · refine ⟨fun k hk => ?_, fun k hk => .inl (st.wf.sub k hk)⟩
      rcases hk with hk | hk
      · have := st.wf.lt k hk; simp; omega
      · simp; omega
    · obtain ⟨ρ, k1, k2, k3⟩ := st.bx
      have hlt : ∀ b cs', e.get (kBox b) = .agg cs' → ρ b < w.heap.size := fun b cs' hb => st.wf.lt _ (k1 b cs' hb).2.1
      refine ⟨fun b => if b = t then w.heap.size else ρ b, fun b cs' hb => ?_, fun b b' cs1 cs2 h1 h2 hρ => ?_, fun u b o' cs' hu ho hb => ?_⟩
      · by_cases hbt' : b = t
        · subst hbt'
          rw [hbox, if_pos rfl] at hb
          injection hb with hb
          subst hb
          simp only [if_true]
          refine ⟨⟨T, .mk (hpush_new _ _)⟩, .inr rfl, fun hw => ?_, st.xt.size, by rw [hsz, hsz2]⟩
          have := st.wf.lt _ (st.wf.sub _ hw); omega
        · have hb' := hboxe b cs' hbt' hb
          obtain ⟨⟨U, hU⟩, m1, m2, m3, m4⟩ := k1 b cs' hb'
          simp only [if_neg hbt']
          exact ⟨⟨U, hU.of_block (hpush_old _ (hlt b cs' hb'))⟩, .inl m1, m2, m3, m4⟩
      · by_cases hb1 : b = t <;> by_cases hb2 : b' = t
        · rw [hb1, hb2]
        · simp only [if_pos hb1, if_neg hb2] at hρ
          have := hlt b' cs2 (hboxe b' cs2 hb2 h2); omega
        · simp only [if_neg hb1, if_pos hb2] at hρ
          have := hlt b cs1 (hboxe b cs1 hb1 h1); omega
        · simp only [if_neg hb1, if_neg hb2] at hρ
          exact k2 b b' cs1 cs2 (hboxe b cs1 hb1 h1) (hboxe b' cs2 hb2 h2) hρ
      · rw [hd]
        simp only [Act.put]
        rw [Go.Vc.getD_set _ _ _ _ hts]
        have ho2 : (((clr (ders A.bx t) e).put (kOff t) (goff 0)).put (kBox t) (.agg cs)).get (kOff u) = (if kBox t = kOff u then .agg cs else if t = u then goff 0 else (clr (ders A.bx t) e).get (kOff u)) := by
          rw [Env.get_put, Env.get_put]
          by_cases h1 : kBox t = kOff u
          · rw [if_pos h1, if_pos h1]
          · rw [if_neg h1, if_neg h1]
            by_cases h2 : t = u
            · subst h2; rw [if_pos rfl, if_pos rfl]
            · rw [if_neg h2, if_neg (by unfold kOff; omega)]
        rw [ho2] at ho
        split at ho
        · cases ho
        split at ho
        · rename_i _ htu
          subst htu
          rw [hbt] at hu
          injection hu with hu
          subst hu
          rw [if_pos rfl, if_pos rfl, ← goff_inj ho]
        · rename_i _ htu
          rw [if_neg htu]
          by_cases hbt' : b = t
          · subst hbt'
            rw [clr_mem _ _ _ (mem_ders hu)] at ho; cases ho
          · rw [if_neg hbt']
            refine k3 u b o' cs' hu ?_ (hboxe b cs' hbt' hb)
            rcases clr_get (ders A.bx t) e (kOff u) with h | ⟨_, h1⟩
            · rw [← h]; exact ho
            · rw [h1] at ho; cases ho
    · intro k hk
      have hk1 : k ≠ kBox t ∧ k ≠ kOff t ∧ k ∉ ders A.bx t := by
        unfold dk at hk
        rw [hd] at hk
        simp only [hbt, Nat.beq_refl, cond_true, List.cons_append, List.mem_cons, List.mem_append, not_or] at hk
        exact ⟨hk.2.2.1, hk.2.1, hk.2.2.2.1⟩
      rw [Env.get_put, if_neg (Ne.symm hk1.1), Env.get_put, if_neg (Ne.symm hk1.2.1)]
      rcases clr_get (ders A.bx t) e k with h | ⟨h1, _⟩
      · exact h
      · exact absurd h1 hk1.2.2
  unfold boxMake at h
  split at h
  · rename_i T ho
    obtain ⟨z, hz, hr⟩ := zeroOf_of h
    refine main T z.cells ?_ (litK_of hz)
    simp only [execOp, ho, Instr.alloc, Sem.run_bind, hr w, Result.andThen_ok]
    rfl
  · rename_i T x ho
    cases hx : okO A x with
    | false => rw [hx] at h; exact h.elim
    | true =>
      rw [hx] at h
      simp only [cond_true] at h
      have h : newA A n t (e.eval x).cells.size (e.eval x).cells e K := by
        cases hsy : (memB A.sy t && aggB P T) with
        | true =>
          rw [hsy] at h
          obtain ⟨cs, hv, hz, _, h⟩ := h
          rw [hv]; simp only [Value.cells]; rw [hz]; exact h
        | false => rw [hsy] at h; exact litK_of h
      refine main T _ ?_ h
      have hx' := st.eo.evalO hx
      simp only [execOp, ho, Instr.box, hx']
      rfl
  · exact h.elim
end
end Go.V2
