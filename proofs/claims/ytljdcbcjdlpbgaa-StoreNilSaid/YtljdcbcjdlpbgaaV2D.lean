/-
  Parts of a proof: see the row.
-/
import Derived.Test.YtljdcbcjdlpbgaaV2C
set_option linter.unusedVariables false
set_option linter.unusedSimpArgs false
namespace Go.V2
open Go.Vc
section
variable {P : Program} {A : Ann} {n : Nat} {w0 : World} {F0 : FF} {H0 : Heap}

/-! ## a store into a hidden variable -/
def flatA (sy : Bool) (vs : Array Value) (K : Prop) : Prop := cond sy (chk (∀ v ∈ vs.toList, flat v = true) K) (cond (allB flat vs.toList) K False)
theorem flatA_of {sy : Bool} {vs : Array Value} {K : Prop} (h : flatA sy vs K) : (∀ v ∈ vs.toList, flat v = true) ∧ K := by
  unfold flatA at h
  cases sy with
  | true => exact h
  | false =>
    simp only [cond_false] at h
    cases hb : allB flat vs.toList with
    | true => rw [hb] at h; exact ⟨allB_mem hb, h⟩
    | false => rw [hb] at h; exact h.elim
def fillA (P : Program) (A : Ann) (T : TypeId) (b off sz : Nat) (cs : Array Value) (v : Value) (e : Env) (K : Env → Prop) : Prop :=
  cond (aggB P T)
    (cond (memB A.sy b)
      (agA v (P.cellsOf T) fun vs => cond (Nat.beq off 0 && Nat.beq (P.cellsOf T) sz) (K (e.put (kBox b) (.agg vs))) (leA (memB A.vx b) (off + P.cellsOf T) sz (K (e.put (kBox b) (.agg (putC cs off vs))))))
      (litK v fun vs => sizeA false vs.size (P.cellsOf T) (flatA false vs (cond (Nat.beq off 0 && Nat.beq (P.cellsOf T) sz) (K (e.put (kBox b) (.agg vs))) (leA false (off + P.cellsOf T) sz (K (e.put (kBox b) (.agg (putRow cs.toList off vs.toList).toArray))))))))
    (cond (Nat.beq (P.cellsOf T) 1 && flat v) (cond (memB A.sy b) (ltA (memB A.vx b) off sz (K (e.put (kBox b) (.agg (setC cs off v))))) (ltA false off sz (K (e.put (kBox b) (.agg (cs.toList.set off v).toArray))))) False)
theorem flat_cells {v : Value} (h : flat v = true) : v.cells = #[v] := by cases v <;> first | rfl | simp [flat] at h
/-- what is laid there -/
theorem fillA_of {P : Program} {A : Ann} {T : TypeId} {b off sz : Nat} {cs : Array Value} {v : Value} {e : Env} {K : Env → Prop} (h : fillA P A T b off sz cs v e K) (hz : cs.size = sz) :
    v.cells.size = P.cellsOf T ∧ (∀ c ∈ v.cells.toList, flat c = true) ∧ off + v.cells.size ≤ cs.size ∧ ∃ us : Array Value, us.toList = putRow cs.toList off v.cells.toList ∧ K (e.put (kBox b) (.agg us)) := by
  have whole : ∀ vs : Array Value, vs.size = P.cellsOf T → (Nat.beq off 0 && Nat.beq (P.cellsOf T) sz) = true → off + vs.size ≤ cs.size ∧ vs.toList = putRow cs.toList off vs.toList := fun vs hs hf => by
    simp only [Bool.and_eq_true] at hf
    have f1 := Nat.eq_of_beq_eq_true hf.1
    have f2 := Nat.eq_of_beq_eq_true hf.2
    subst f1
    refine ⟨by omega, ?_⟩
    rw [putRow_eq _ _ _ (by simp; omega)]
    simp only [List.take_zero, List.nil_append, Nat.zero_add]
    rw [List.drop_eq_nil_of_le (by simp; omega), List.append_nil]
  unfold fillA at h
  cases ha : aggB P T with
  | true =>
    rw [ha] at h
    simp only [cond_true] at h
    cases hs : memB A.sy b with
    | true =>
      rw [hs] at h
      obtain ⟨vs, rfl, h1, h2, h⟩ := h
      cases hf : (Nat.beq off 0 && Nat.beq (P.cellsOf T) sz) with
      | true => rw [hf] at h; obtain ⟨k1, k2⟩ := whole vs h1 hf; exact ⟨h1, h2, k1, vs, k2, h⟩
      | false => rw [hf] at h; simp only [cond_false] at h; obtain ⟨hle, h⟩ := leA_of h; exact ⟨h1, h2, by simp only [Value.cells]; omega, _, rfl, h⟩
    | false =>
      rw [hs] at h
      have h := litK_of h
      obtain ⟨h1, h⟩ := sizeA_of h
      obtain ⟨h2, h⟩ := flatA_of h
      cases hf : (Nat.beq off 0 && Nat.beq (P.cellsOf T) sz) with
      | true => rw [hf] at h; obtain ⟨k1, k2⟩ := whole _ h1 hf; exact ⟨h1, h2, k1, _, k2, h⟩
      | false => rw [hf] at h; simp only [cond_false] at h; obtain ⟨hle, h⟩ := leA_of h; exact ⟨h1, h2, by omega, _, rfl, h⟩
  | false =>
    rw [ha] at h
    simp only [cond_false] at h
    cases hc : (Nat.beq (P.cellsOf T) 1 && flat v) with
    | false => rw [hc] at h; exact h.elim
    | true =>
      rw [hc] at h
      simp only [Bool.and_eq_true] at hc
      have h1 := Nat.eq_of_beq_eq_true hc.1
      have hv := flat_cells hc.2
      rw [hv]
      have key : off < sz ∧ ∃ us : Array Value, us.toList = cs.toList.set off v ∧ K (e.put (kBox b) (.agg us)) := by
        simp only [cond_true] at h
        cases hs : memB A.sy b with
        | true => rw [hs] at h; simp only [cond_true] at h; obtain ⟨h2, h⟩ := ltA_of h; exact ⟨h2, _, by simp [setC], h⟩
        | false => rw [hs] at h; simp only [cond_false] at h; obtain ⟨h2, h⟩ := ltA_of h; exact ⟨h2, _, rfl, h⟩
      obtain ⟨h2, us, h3, h4⟩ := key
      exact ⟨by simp [h1], fun c hcm => by simp at hcm; rw [hcm]; exact hc.2, by simp; omega, us, by simpa [putRow] using h3, h4⟩
def boxStore (P : Program) (A : Ann) (o : Oper) (e : Env) (K : Env → Prop) : Prop := match o.op with
  | .store T (.tmp s) x => cond (okO A x && o.dst.isNone && (P.info? T).isSome) (baseA A s e fun b off => contA A b e fun cs sz => fillA P A T b off sz cs (e.eval x) e K) False
  | _ => False
theorem BX.store {B : Nat} {e : Env} {F : FF} {H H' : Heap} {a : Act} {ρ : Nat → Nat} {b : Nat} {cs vs : Array Value}
    (k1 : ∀ d cs, e.get (kBox d) = .agg cs → (∃ T, CellsAt H (ρ d) cs T) ∧ F.x (ρ d) ∧ ¬ F.w (ρ d) ∧ B ≤ ρ d ∧ asc A.bs d = some cs.size)
    (k2 : ∀ d d' cs cs', e.get (kBox d) = .agg cs → e.get (kBox d') = .agg cs' → ρ d = ρ d' → d = d')
    (k3 : ∀ t d o cs, asc A.bx t = some d → e.get (kOff t) = goff o → e.get (kBox d) = .agg cs → a.tmps.getD t undef = .pointer (some ⟨ρ d, o, none⟩))
    (hb : e.get (kBox b) = .agg cs) (hout : ∀ k, k ≠ ρ b → H'[k]? = H[k]?) (hc : ∃ T, CellsAt H' (ρ b) vs T) (hsz : vs.size = cs.size) : BX A B (e.put (kBox b) (.agg vs)) F H' a := by
  have hne : ∀ d cs', d ≠ b → (e.put (kBox b) (.agg vs)).get (kBox d) = .agg cs' → e.get (kBox d) = .agg cs' := fun d cs' hd hh => by
    rwa [Env.get_put, if_neg (by unfold kBox; omega)] at hh
  have hag : ∀ d cs', (e.put (kBox b) (.agg vs)).get (kBox d) = .agg cs' → ∃ cs2, e.get (kBox d) = .agg cs2 := fun d cs' hh => by
    by_cases hd : d = b
    · subst hd; exact ⟨_, hb⟩
    · exact ⟨_, hne d cs' hd hh⟩
  refine ⟨ρ, fun d cs' hd => ?_, fun d d' c1 c2 h1 h2 hρ => ?_, fun t d o c ht ho hd => ?_⟩
  · by_cases hdb : d = b
    · subst hdb
      rw [Env.get_put, if_pos rfl] at hd
      injection hd with hd
      subst hd
      obtain ⟨_, m1, m2, m3, m4⟩ := k1 d cs hb
      exact ⟨hc, m1, m2, m3, by rw [hsz]; exact m4⟩
    · have hd' := hne d cs' hdb hd
      obtain ⟨⟨T, hT⟩, m⟩ := k1 d cs' hd'
      exact ⟨⟨T, hT.of_block (hout _ fun h => hdb (k2 _ _ _ _ hd' hb h))⟩, m⟩
  · obtain ⟨c1', h1'⟩ := hag d c1 h1
    obtain ⟨c2', h2'⟩ := hag d' c2 h2
    exact k2 _ _ _ _ h1' h2' hρ
  · rw [Env.get_put] at ho
    split at ho
    · cases ho
    · obtain ⟨c', h'⟩ := hag d c hd
      exact k3 t d o c' ht ho h'
theorem boxStore_wp' {o : Oper} {e : Env} {F : FF} {d : Bool} {H : Heap} {a : Act} {w : World} {K : Env → Prop} {next : Act → World → Prop} {Q : Exit → Act → World → Prop}
    (hs : StD A n w0 F0 H0 e F d H a w) (h : boxStore P A o e K)
    (hn : ∀ e' u w', StD A n w0 F0 H0 e' F true H (a.put o.dst u) w' → K e' → Fr (dk A o) e e' → next (a.put o.dst u) w') : o.wp P a w next Q := by
  unfold boxStore at h
  split at h
  case h_2 => exact h.elim
  rename_i T s x ho
  cases hc : (okO A x && o.dst.isNone && (P.info? T).isSome) with
  | false => rw [hc] at h; exact h.elim
  | true =>
  rw [hc] at h
  simp only [cond_true] at h
  simp only [Bool.and_eq_true, Option.isNone_iff_eq_none] at hc
  obtain ⟨⟨hx, hd⟩, hi⟩ := hc
  obtain ⟨b, off, hb, hoff, h⟩ := baseA_of h
  obtain ⟨cs, sz, hcs, hsz, h⟩ := contA_of h
  obtain ⟨G, st, sto⟩ := hs.st
  have hx' := st.eo.evalO hx
  obtain ⟨ρ, k1, k2, k3⟩ := st.bx
  obtain ⟨⟨U, hU⟩, m1, m2, m3, m4⟩ := k1 b cs hcs
  have hzs : sz = cs.size := by rw [hsz] at m4; injection m4
  obtain ⟨hsize, hflat, hle0, us0, hus0, hk0⟩ := fillA_of h hzs.symm
  have hp : a.eval (.tmp s) = .pointer (some ⟨ρ b, off, none⟩) := k3 s b off cs hb hoff hcs
  -- whatever is laid there
  have main : ∀ us : Array Value, us.toList = putRow cs.toList off (e.eval x).cells.toList → off + (e.eval x).cells.size ≤ cs.size → K (e.put (kBox b) (.agg us)) → o.wp P a w next Q := by
    intro us hus hle hk
    have hrun : semVc P (storeCells ⟨ρ b, off, none⟩ (e.eval x).cells.toList) w.heap fun _ H' => H'.size = w.heap.size ∧ (∀ k, k ≠ ρ b → H'[k]? = w.heap[k]?) ∧ CellsAt H' (ρ b) us U := by
      obtain ⟨cl⟩ := cs
      refine semVc_storeFrom (T := U) (e.eval x).cells.toList 0 cl _ _ hflat hU (by simpa using hle) fun H' h1 h2 h3 => ⟨h1, h2, ?_⟩
      have : us = (putRow cl (off + 0) (e.eval x).cells.toList).toArray := by apply Array.toList_inj.1; rw [hus]; rfl
      rw [this]; exact h3
    obtain ⟨u, w', hr, ha, h1, h2, h3⟩ := semVc_sound P _ w _ hrun
    have hex : (execOp a.eval o).run P w = .ok .skip w' := by
      simp only [execOp, ho, Instr.storeAt, hp, hx', Instr.sureAddr, storeVar, Sem.run_bind]
      simp only [pure, Sem.run, Result.andThen_ok, Sem.run_bind, sizeOf_run hi, hsize, ne_eq, not_true_eq_false, if_false, hr]
    unfold Oper.wp
    rw [hex]
    simp only [Oper.upon]
    have hput : a.put o.dst undef = a := by rw [hd]; rfl
    have hst : St A n w0 F0 H0 (e.put (kBox b) (.agg us)) G w'.heap a w' := by
      refine ⟨⟨st.eo.size, fun u hu => ?_, st.eo.defers⟩, st.ag.trans ha, rfl, ?_, ?_, ?_⟩
      · obtain ⟨hu1, hu2⟩ := okT_iff.1 hu
        rw [Env.get_put, if_neg (by have := (key_ne (s := b) hu1).2; omega)]; exact st.eo.get u hu
      · refine ⟨by rw [h1]; exact st.xt.size, fun k hk hh => ?_, st.xt.wfp, st.xt.xin, st.xt.xfp⟩
        rw [h2 k (by omega)]; exact st.xt.out k hk hh
      · exact ⟨fun k hk => by rw [h1]; exact st.wf.lt k hk, st.wf.sub⟩
      · refine BX.store k1 k2 k3 hcs h2 ⟨U, h3⟩ ?_
        have := congrArg List.length hus
        rw [putRow_length 0] at this
        simpa using this
    have hsto : Sto F H G w'.heap := by
      refine ⟨by rw [h1]; exact sto.size, fun k hk hh => ?_, sto.w, sto.xin, sto.xfp⟩
      have hkw : k < w.heap.size := Nat.lt_of_lt_of_le hk sto.size
      have hkb : k ≠ ρ b := fun e => by
        subst e
        rcases hh with hh | hh
        · rw [← sto.w] at hh; exact m2 hh
        · rcases sto.xfp _ m1 with h | h
          · exact hh h
          · omega
      rw [h2 k hkb]; exact sto.out k hk hh
    refine hn _ undef _ ?_ hk (Fr.put _ (by unfold dk storesTo; rw [ho]; simp only [hb]; simp))
    rw [hput]
    exact StD.dirty hsto hst
  exact main us0 hus0 hle0 hk0

/-! ## calls and other effects -/
def kindR (P : Program) (t : TypeId) : Kind := cond (aggB P t) .any (kind1 P t)
def kindsL (P : Program) : List TypeId → List Kind
  | [] => []
  | t :: r => kindR P t :: kindsL P r
/-- a call of a function that the text names, or of a function value that is written out -/
def isCallV : Op → Bool
  | .call { callee := .value _, .. } => true
  | _ => false
def callG (P : Program) (ρ : Operand → Value) (c : Call) (K : FuncId → List TypeId → Array Value → Prop) : Prop :=
  match c.callee with
  | .value x => (match ρ x with
    | .func (.func f) first cap => (match P.funcs[f]? with
      | some fn => cond (fn.body.isSome && !(fn.name == "runtime.NumGoroutine")) (K f fn.resultTypes.toList (first.toList ++ (mapL ρ c.args.toList ++ cap.toList)).toArray) False
      | none => False)
    | _ => False)
  | _ => False
theorem callG_of {P : Program} {o : Oper} {ρ : Operand → Value} {K : FuncId → List TypeId → Array Value → Prop} (ho : isCallV o.op = true) (h : callG P ρ (theCall o.op) K) :
    ∃ f ts args, K f ts args ∧ ∀ w : World, (execOp ρ o).run P w = .ok (.enter f args) w := by
  have ho' : o.op = .call (theCall o.op) := by
    unfold isCallV at ho
    split at ho
    · rename_i h; rw [h]; rfl
    · cases ho
  obtain ⟨c, hoc⟩ : ∃ c, o.op = .call c := ⟨_, ho'⟩
  have hth : theCall o.op = c := by rw [hoc]; rfl
  rw [hth] at h
  clear ho' hth
  unfold callG at h
  split at h
  · rename_i x hc
    split at h
    · rename_i f first cap hx
      split at h
      · rename_i fn hf
        cases hb : (fn.body.isSome && !(fn.name == "runtime.NumGoroutine")) with
        | false => rw [hb] at h; exact h.elim
        | true =>
          rw [hb] at h
          simp only [Bool.and_eq_true] at hb
          have hargs : (first.toList ++ (mapL ρ c.args.toList ++ cap.toList)).toArray = first ++ c.args.map ρ ++ cap := by
            rw [← mapL_eq]; apply Array.toList_inj.1; simp
          rw [hargs] at h
          refine ⟨f, _, _, h, fun w => ?_⟩
          have hnb : fn.body.isNone = false := by cases hx : fn.body <;> simp_all
          have hnn : (fn.name == "runtime.NumGoroutine") = false := by simpa using hb.2
          have hnn' : ¬ fn.name = "runtime.NumGoroutine" := by simpa using hnn
          have hnb' : ¬ fn.body = none := by intro hx; simp [hx] at hnb
          simp only [execOp, hoc, resolve, hc, hx, Deferred.ofValue, Sem.run_bind]
          simp [invoke, callFunc, program, Sem.run, hf, hnb', hnn']
      · exact h.elim
    · exact h.elim
  · exact h.elim
def callX (P : Program) (ρ : Operand → Value) (c : Call) (F : FF) (H : Heap) (K : Value → FF → Heap → Prop) : Prop :=
  callG P ρ c fun f ts args => HX P f (kindsL P ts) args F H (crX (kindsL P ts) fun vs F' H' => K (tupW vs) F' H')
def stepX (F : FF) (H H' : Heap) (K : FF → Prop) : Prop := WF F H → ∃ F', Xt F H F' H' ∧ WF F' H' ∧ K F'
/-- a struct or an array is stored, all its cells at once -/
def stAg (P : Program) (n : Nat) (a : Addr) (v : Value) (H : Heap) (K : Heap → Prop) : Prop :=
  ∃ vs : Array Value, v = .agg vs ∧ vs.size = n ∧ semVc P (storeCells a vs.toList) H fun _ H' => K H'
def isStA (P : Program) : Op → Bool
  | .store T _ _ => aggB P T && (P.info? T).isSome
  | _ => false
def stA (P : Program) (o : Oper) (ρ : Operand → Value) (H : Heap) (K : Heap → Prop) : Prop := match o.op with
  | .store T a x => (match ρ a with
    | .pointer p => ptrK p fun b off => stAg P (P.cellsOf T) ⟨b, off, none⟩ (ρ x) H K
    | _ => False)
  | _ => False
theorem stA_run {P : Program} {o : Oper} {ρ : Operand → Value} {H : Heap} {K : Heap → Prop} (hs : isStA P o.op = true) (h : stA P o ρ H K) :
    ∀ w : World, w.heap = H → ∃ w', (execOp ρ o).run P w = .ok .skip w' ∧ Agree w w' ∧ K w'.heap := by
  intro w hw
  unfold stA at h
  split at h
  · rename_i T a x ho
    rw [ho] at hs
    simp only [isStA, Bool.and_eq_true] at hs
    split at h
    · rename_i p hp
      obtain ⟨b, off, rfl, h⟩ := ptrK_of h
      obtain ⟨vs, hv, hz, h⟩ := h
      rw [← hw] at h
      obtain ⟨u, w', hr, ha, hk⟩ := semVc_sound P _ w _ h
      refine ⟨w', ?_, ha, hk⟩
      simp only [execOp, ho, Instr.storeAt, hp, hv, Instr.sureAddr, storeVar, Sem.run_bind, Value.cells]
      simp only [pure, Sem.run, Result.andThen_ok, Sem.run_bind, sizeOf_run hs.2, hz, ne_eq, not_true_eq_false, if_false, hr]
    · exact h.elim
  · exact h.elim
def effX (P : Program) (o : Oper) (ρ : Operand → Value) (F : FF) (H : Heap) (K : Value → FF → Heap → Prop) : Prop :=
  effVc P o ρ H fun v H' => stepX F H H' fun F' => K v F' H'
/-- hidden variables lie as they lay -/
theorem BX.step {B : Nat} {e : Env} {F F' : FF} {H H' : Heap} {a : Act} (h : BX A B e F H a) (hw : WF F H) (x : Xt F H F' H') : BX A B e F' H' a := by
  obtain ⟨ρ, k1, k2, k3⟩ := h
  refine ⟨ρ, fun d cs hd => ?_, k2, k3⟩
  obtain ⟨⟨T, hT⟩, m1, m2, m3, m4⟩ := k1 d cs hd
  have hlt := hw.lt _ m1
  exact ⟨⟨T, hT.of_block (x.out _ hlt m2)⟩, x.xin _ m1, fun hh => (x.wfp _ hh).elim m2 fun h => by omega, m3, m4⟩
def loudA (P : Program) (A : Ann) (n : Nat) (o : Oper) (e : Env) (F : FF) (d : Bool) (H : Heap) (K : Env → FF → Bool → Heap → Prop) : Prop :=
  match boxNewAt A o with
  | some t => boxMake P A n o.op t e fun e' => K e' F true H
  | none => cond (clean A o)
    (cond (isCallV o.op) (expo d F H fun F H => callX P e.eval (theCall o.op) F H fun v F' H' => putA A n o.dst v e fun e' => K e' F' false H')
      (cond (isStA P o.op) (expo d F H fun F H => stA P o e.eval H fun H' => stepX F H H' fun F' => putA A n o.dst undef e fun e' => K e' F' false H')
        (expo d F H fun F H => effX P o e.eval F H fun v F' H' => putA A n o.dst v e fun e' => K e' F' false H')))
    (boxStore P A o e fun e' => K e' F true H)
theorem loudA_wp {o : Oper} {e : Env} {F : FF} {d : Bool} {H : Heap} {a : Act} {w : World} {K : Env → FF → Bool → Heap → Prop} {next : Act → World → Prop} {Q : Exit → Act → World → Prop}
    (hs : StD A n w0 F0 H0 e F d H a w) (h : loudA P A n o e F d H K)
    (hn : ∀ e' F' d' H' u w', StD A n w0 F0 H0 e' F' d' H' (a.put o.dst u) w' → K e' F' d' H' → Fr (dk A o) e e' → Im F H F' H' → next (a.put o.dst u) w') : o.wp P a w next Q := by
  unfold loudA at h
  split at h
  · rename_i t ht
    exact boxMake_wp' hs ht h fun e' u w' hs' hk hf => hn e' F true H u w' hs' hk hf (Im.refl _ _)
  · cases hc : clean A o with
    | false =>
      rw [hc] at h
      exact boxStore_wp' hs h fun e' u w' hs' hk hf => hn e' F true H u w' hs' hk hf (Im.refl _ _)
    | true =>
      rw [hc] at h
      simp only [cond_true] at h
      have fin : ∀ (G : FF) (hst : St A n w0 F0 H0 e G w.heap a w) (him : Im F H G w.heap) (v : Value) (w' : World) (G' : FF), Agree w w' → Xt G w.heap G' w'.heap → WF G' w'.heap →
          putA A n o.dst v e (fun e' => K e' G' false w'.heap) → next (a.put o.dst v) w' := fun G hst him v w' G' ha hx hw hk => by
        obtain ⟨e', he', hk, hf, hb⟩ := putA_of hst.eo hk
        exact hn e' G' false w'.heap v w' (StD.clean ⟨he', hst.ag.trans ha, rfl, hst.xt.trans hx, hw, hb _ _ _ (hst.bx.step hst.wf hx)⟩) hk (hf.mono dst_dk) (him.trans (hx.im hst.wf.sub))
      cases hcf : isCallV o.op with
      | true =>
        rw [hcf] at h
        simp only [cond_true] at h
        obtain ⟨G, hst, h, him⟩ := hs.expo h
        obtain ⟨f, ts, args, hk, hr⟩ := callG_of hcf h
        unfold Oper.wp
        rw [hst.eo.exec hc, hr w]
        refine (hk hst.wf w rfl).mono fun ex w' hh => ?_
        obtain ⟨v, rfl, ha, vs, G', rfl, hx, hw, hk⟩ := hh
        exact fin G hst him _ w' G' ha hx hw (apX_cr _ hk)
      | false =>
        rw [hcf] at h
        simp only [cond_false] at h
        cases hsa : isStA P o.op with
        | true =>
          rw [hsa] at h
          obtain ⟨G, hst, h, him⟩ := hs.expo h
          obtain ⟨w', hr, ha, hk⟩ := stA_run hsa h w rfl
          obtain ⟨G', hx, hw, hk⟩ := hk hst.wf
          unfold Oper.wp
          rw [hst.eo.exec hc, hr]
          exact fin G hst him undef w' G' ha hx hw hk
        | false =>
        rw [hsa] at h
        simp only [cond_false] at h
        obtain ⟨G, hst, h, him⟩ := hs.expo h
        have h := effVc_sem h
        unfold Oper.wp
        rw [hst.eo.exec hc]
        obtain ⟨x, w', hr, ha, hk⟩ := semVc_sound P _ w _ h
        rw [hr]
        cases x <;> first
          | (obtain ⟨G', hx, hw, hk⟩ := hk hst.wf; exact fin G hst him _ w' G' ha hx hw hk)
          | exact hk.elim
          | (refine (hk w' rfl).mono fun e w'' hh => ?_
             obtain ⟨v, rfl, ha', hk⟩ := hh
             obtain ⟨G', hx, hw, hk⟩ := shp_of hk hst.wf
             exact fin G hst him _ w'' G' (ha.trans ha') hx hw hk)
end
end Go.V2
