/-
  A region that draws its order: whatever order the model draws, it ends where the abstract machine's run in the order of the text ends. Conditions: those of each law.
-/
import Derived.Test.YtnemoodjbekngaaAbOrder
namespace Go.Ab
open Go.RowKit (Below)

theorem textRun_bound {P : Program} {call : CallF} {ops : Array Oper} : ∀ (l : List Oper) (i : Nat) (fr : Fr) (H : Heap) (fr' : Fr) (es : List (Nat × Heap)), textRun P call ops l i fr H = some (fr', es) → ∀ e ∈ es, e.1 < i + l.length
  | [], i, fr, H, fr', es, h => by
    simp only [textRun, Option.some.injEq, Prod.mk.injEq] at h
    obtain ⟨rfl, rfl⟩ := h
    intro e he
    simp at he
  | o :: l, i, fr, H, fr', es, h => by
    simp only [textRun] at h
    intro e he
    simp only [List.length_cons]
    cases hw : Region.wanted o (yieldedA ops fr) with
    | true =>
      rw [hw] at h
      simp only [cond_true] at h
      cases hs : stepOp P call fr o H with
      | none => rw [hs] at h; cases h
      | some vh =>
        obtain ⟨v, H1⟩ := vh
        rw [hs] at h
        simp only at h
        cases ht : textRun P call ops l (i + 1) (fr.put o.dst v) H1 with
        | none => rw [ht] at h; cases h
        | some r =>
          obtain ⟨fr2, es2⟩ := r
          rw [ht] at h
          simp only [Option.some.injEq, Prod.mk.injEq] at h
          have ih := textRun_bound l (i + 1) _ _ _ _ ht
          obtain ⟨_, hes⟩ := h
          have : e = (i, H1) ∨ e ∈ es2 := by
            rw [← hes] at he
            cases hc : classOf P o.op <;> rw [hc] at he <;> simp at he
            · exact .inr he
            · exact .inr he
            · exact he
          rcases this with rfl | he
          · show i < _; omega
          · have := ih e he; omega
    | false =>
      rw [hw] at h
      simp only [cond_false] at h
      have := textRun_bound l (i + 1) _ _ _ _ h e he
      omega

theorem chained_mid {bs : List (List Nat)} : ∀ (xs : List (Nat × Heap)) (a b : Nat × Heap) (ys : List (Nat × Heap)), chained bs (xs ++ a :: b :: ys) = true → a.1 ∈ bs.getD b.1 []
  | [], (i, A), (j, B), ys, h => by
    simp only [List.nil_append, chained, Bool.and_eq_true] at h
    obtain ⟨x, hx, he⟩ := List.any_eq_true.1 h.1
    rw [Nat.eq_of_beq_eq_true he]; exact hx
  | [(k, C)], (i, A), b, ys, h => by
    rw [List.singleton_append, chained, Bool.and_eq_true] at h
    exact chained_mid [] (i, A) b ys h.2
  | (k, C) :: (m, D) :: xs, a, b, ys, h => by
    simp only [List.cons_append, chained, Bool.and_eq_true] at h
    exact chained_mid ((m, D) :: xs) a b ys h.2

/-- What reads yields the same behind each of the effects that may come ahead of it. -/
theorem readsSame_at {P : Program} {fr : Fr} {bs : List (List Nat)} {i : Nat} {o : Oper} : ∀ (es1 es2 : List (Nat × Heap)) (H : Heap), readsSame P fr bs i o H (es1 ++ es2) = true →
    (∀ e ∈ es1, i ∉ bs.getD e.1 []) → (∀ e ∈ es2, e.1 ∉ bs.getD i []) →
    ∃ v H2, evalOp P fr.eval o (lastHeap H es1) = some (.val v H2) ∧ ∀ d, o.dst = some d → v = fr.get d
  | [], es2, H, h, h1, h2 => by
    have key : (es2.any (fun e => (bs.getD i []).any (Nat.beq e.1)) || (match evalOp P fr.eval o H with
        | some (.val v _) => (match o.dst with | some d => valEq v (fr.get d) | none => true)
        | _ => false)) = true := by
      rw [List.nil_append] at h
      cases es2 with
      | nil => simp only [readsSame, Bool.and_eq_true] at h; exact h.1
      | cons e es2 => obtain ⟨e1, e2⟩ := e; simp only [readsSame, Bool.and_eq_true] at h; exact h.1
    have hno : es2.any (fun e => (bs.getD i []).any (Nat.beq e.1)) = false := by
      cases hx : es2.any (fun e => (bs.getD i []).any (Nat.beq e.1)) with
      | false => rfl
      | true =>
        obtain ⟨e, he, hb⟩ := List.any_eq_true.1 hx
        obtain ⟨x, hx, hxe⟩ := List.any_eq_true.1 hb
        rw [← Nat.eq_of_beq_eq_true hxe] at hx
        exact absurd hx (h2 e he)
    rw [hno, Bool.false_or] at key
    show ∃ v H2, evalOp P fr.eval o H = some (.val v H2) ∧ _
    cases he : evalOp P fr.eval o H with
    | none => rw [he] at key; cases key
    | some r =>
      rw [he] at key
      cases r with
      | call f args => cases key
      | val v H2 =>
        refine ⟨v, H2, rfl, fun d hd => ?_⟩
        simp only [hd] at key
        exact valEq_eq _ _ key
  | (e, H1) :: es1, es2, H, h, h1, h2 => by
    rw [lastHeap_cons]
    simp only [List.cons_append, readsSame, Bool.and_eq_true, Bool.or_eq_true] at h
    rcases h.2 with h' | h'
    · obtain ⟨x, hx, hxe⟩ := List.any_eq_true.1 h'
      rw [← Nat.eq_of_beq_eq_true hxe] at hx
      exact absurd hx (h1 (e, H1) (by simp))
    · exact readsSame_at es1 es2 H1 h' (fun e he => h1 e (by simp [he])) h2

section
variable {P : Program} {gl : Nat} {w0 : World} {call : CallF}

/-- One operation, its operands given one by one. -/
theorem step_run_at (hN : NamesOk P) (hC : CallOk P gl call) {π : List Place} {ρ : Operand → Value} {H H' : Heap} {a : Act} {w : World} {o : Oper} {v : Value}
    (h : (match evalOp P ρ o H with | some (.val v H) => some (v, H) | some (.call f args) => call f args H | none => none) = some (v, H'))
    (hr : ∀ x ∈ o.op.operands.toList, VRel π (ρ x) (a.eval x)) (hR : HRel w0 π H w) (hg : Globs gl π) {K : Act → World → Prop} {Q : Exit → Act → World → Prop}
    (hK : ∀ π' v' w', PLe π π' → VRel π' v v' → HRel w0 π' H' w' → K (a.put o.dst v') w') : o.wp P a w K Q := by
  cases he : evalOp P ρ o H with
  | none => rw [he] at h; cases h
  | some r =>
    rw [he] at h
    have hrun := op_run hN hR he hr
    cases r with
    | val v1 H1 =>
      simp only [Option.some.injEq, Prod.mk.injEq] at h
      obtain ⟨rfl, rfl⟩ := h
      obtain ⟨π', v', w', g1, g2, g3, g4⟩ := hrun
      unfold Oper.wp
      rcases g2 with g2 | ⟨g2, rfl⟩
      · rw [g2]; exact hK π' v' w' g1 g3 g4
      · rw [g2]; exact hK π' undef w' g1 g3 g4
    | call f args =>
      simp only at h
      obtain ⟨args', g1, g2⟩ := hrun
      unfold Oper.wp
      rw [g2]
      refine (hC f args H v H' h w0 π w args' hR hg g1).mono ?_
      rintro e w' ⟨π', v', k1, rfl, k2, k3⟩
      exact hK π' v' w' k1 k2 k3

theorem wanted_congr {o : Oper} {f g : Nat → Option Bool} (h : ∀ k b, o.guard = some (k, b) → f k = g k) : Region.wanted o f = Region.wanted o g := by
  unfold Region.wanted
  cases hg : o.guard with
  | none => rfl
  | some kb => obtain ⟨k, b⟩ := kb; simp only; rw [h k b hg]

theorem tmp_mem {o : Oper} {t : Tmp} (h : Operand.tmp t ∈ o.op.operands.toList) : t ∈ tmpsOf o := by
  unfold tmpsOf
  exact List.mem_filterMap.2 ⟨_, h, rfl⟩

theorem eval_congr {f g : Fr} {o : Oper} (h : ∀ t ∈ tmpsOf o, f.get t = g.get t) : ∀ x ∈ o.op.operands.toList, f.eval x = g.eval x := by
  intro x hx
  cases x with
  | tmp t => exact h t (tmp_mem hx)
  | _ => rfl

/-- What stands, in whatever order, once some operations have run. -/
structure Mid (ops : Array Oper) (w0 : World) (π0 : List Place) (H : Heap) (es : List (Nat × Heap)) (fr' : Fr) (a0 : Act) (listed : Array Bool) (a : Act) (w : World) (π : List Place) (es1 es2 : List (Nat × Heap)) : Prop where
  cut : es = es1 ++ es2
  done : ∀ e ∈ es1, listed.getD e.1 false = true
  todo : ∀ e ∈ es2, listed.getD e.1 true = false
  mem : HRel w0 π (lastHeap H es1) w
  grown : PLe π0 π
  closed : ∀ (i : Nat) (o : Oper), ops[i]? = some o → listed.getD i false = true → ∀ e ∈ o.after, Region.binds .any e = true → listed.getD e.on false = true
  size : fr'.n = a.tmps.size
  temps : ∀ t, (∀ (j : Nat) (o : Oper), ops[j]? = some o → o.dst = some t → listed.getD j false = true) → VRel π (fr'.get t) (a.tmps.getD t undef)
  defers : a.defers = a0.defers
  full : listed.size = ops.size

theorem getD_none {listed : Array Bool} {i : Nat} (h : listed.getD i true = false) : listed.getD i false = false ∧ i < listed.size := by
  by_cases hi : i < listed.size
  · refine ⟨?_, hi⟩
    simpa [Array.getD_eq_getD_getElem?, hi] using h
  · simp [Array.getD_eq_getD_getElem?, hi] at h

theorem tmps_put_size (a : Act) (dst : Option Tmp) (v : Value) : (a.put dst v).tmps.size = a.tmps.size := by cases dst <;> simp [Act.put]
theorem tmps_put_ne {a : Act} {dst : Option Tmp} {v : Value} {t : Tmp} (h : dst ≠ some t) : (a.put dst v).tmps.getD t undef = a.tmps.getD t undef := by
  cases dst with
  | none => rfl
  | some d =>
    have hd : d ≠ t := fun e => h (by rw [e])
    simp [Act.put, Array.getD_eq_getD_getElem?, hd]
theorem tmps_put_eq {a : Act} {v : Value} {t : Tmp} (h : t < a.tmps.size) : (a.put (some t) v).tmps.getD t undef = v := by
  simp [Act.put, Array.getD_eq_getD_getElem?, h]

theorem count_step {listed : Array Bool} {i n : Nat} (hi : i < listed.size) (h0 : listed.getD i false = false) (h : listed.toList.count false ≤ n + 1) : (listed.setIfInBounds i true).toList.count false ≤ n := by
  rw [Array.toList_setIfInBounds, List.count_set (by simpa using hi)]
  have hget : listed.toList[i]'(by simpa using hi) = false := by
    have : listed[i] = false := by simpa [Array.getD_eq_getD_getElem?, hi] using h0
    simpa using this
  have e : (true == false) = false := rfl
  simp only [hget, e, beq_self_eq_true, if_true, Bool.false_eq_true, if_false]
  omega

/-- Behind operation i. -/
theorem Mid.next {ops : Array Oper} {π0 π π' : List Place} {H : Heap} {es es1 es1' es2 es2' : List (Nat × Heap)} {fr' : Fr} {a0 a : Act} {listed : Array Bool} {w w' : World} (h : Mid ops w0 π0 H es fr' a0 listed a w π es1 es2)
    {i : Nat} {o : Oper} (ho : ops[i]? = some o) (hi : listed.getD i true = false) (hedges : ∀ e ∈ o.after, Region.binds .any e = true → listed.getD e.on false = true)
    (hp : PLe π π') {v' : Value} (hv : ∀ d, o.dst = some d → d < fr'.n → VRel π' (fr'.get d) v') (hm : HRel w0 π' (lastHeap H es1') w')
    (hcut : es = es1' ++ es2') (h1 : ∀ e ∈ es1', e ∈ es1 ∨ e.1 = i) (h2 : ∀ e ∈ es2', e ∈ es2 ∧ e.1 ≠ i) : Mid ops w0 π0 H es fr' a0 (listed.setIfInBounds i true) (a.put o.dst v') w' π' es1' es2' := by
  obtain ⟨_, hlt⟩ := getD_none hi
  have hself : (listed.setIfInBounds i true).getD i false = true := by simp [Array.getD_eq_getD_getElem?, hlt]
  refine ⟨hcut, fun e he => ?_, fun e he => ?_, hm, h.grown.trans hp, fun j p hj hl => ?_, by rw [tmps_put_size]; exact h.size, fun t ht => ?_, by rw [Act.put_defers]; exact h.defers, by simp [h.full]⟩
  · rcases h1 e he with h' | h'
    · exact getD_set_true (h.done e h')
    · rw [h']; exact hself
  · rw [getD_set_ne true (Ne.symm (h2 e he).2)]; exact h.todo e (h2 e he).1
  · intro e he hb
    by_cases hij : i = j
    · subst hij
      rw [ho] at hj
      obtain rfl := Option.some.inj hj
      exact getD_set_true (hedges e he hb)
    · rw [getD_set_ne false hij] at hl
      exact getD_set_true (h.closed j p hj hl e he hb)
  · by_cases hdt : o.dst = some t
    · rw [hdt]
      by_cases hn : t < fr'.n
      · rw [tmps_put_eq (by rw [← h.size]; exact hn)]
        exact hv t hdt hn
      · have e1 : fr'.get t = undef := by rw [Fr.get_def, if_neg hn]
        have e2 : (a.put (some t) v').tmps.getD t undef = undef := by
          simp [Act.put, Array.getD_eq_getD_getElem?, h.size ▸ hn]
        rw [e1, e2]
        exact VRel.undef _
    · rw [tmps_put_ne hdt]
      refine (h.temps t fun j p hj hjd => ?_).mono hp
      have := ht j p hj hjd
      by_cases hij : i = j
      · subst hij
        rw [ho] at hj
        obtain rfl := Option.some.inj hj
        exact absurd hjd hdt
      · rwa [getD_set_ne false hij] at this

theorem turns_run (hN : NamesOk P) (hC : CallOk P gl call) {ops : Array Oper} {fr fr' : Fr} {H : Heap} {es : List (Nat × Heap)} {π0 : List Place} {a0 : Act} {Q : Exit → Act → World → Prop}
    (ht : textRun P call ops ops.toList 0 fr H = some (fr', es)) (hd : depsOk ops.toList = true) (hch : chained (befs ops.toList) es = true)
    (hrd : ∀ (i : Nat) (o : Oper), ops[i]? = some o → classOf P o.op = .reads → Region.wanted o (yieldedA ops fr') = true → readsSame P fr' (befs ops.toList) i o H es = true)
    (hg : Globs gl π0) (hops : ∀ o ∈ ops.toList, operOk gl o = true)
    (hQ : ∀ π' a' w', PLe π0 π' → FrRel π' fr' a'.tmps → HRel w0 π' (lastHeap H es) w' → a'.defers = a0.defers → Q .normal a' w') :
    ∀ (fuel : Nat) (listed : Array Bool) (a : Act) (w : World), listed.toList.count false ≤ fuel → (∃ π es1 es2, Mid ops w0 π0 H es fr' a0 listed a w π es1 es2) → wpAny P .any ops Q fuel listed a w := by
  obtain ⟨_, _, _, spec⟩ := textRun_spec _ _ _ _ _ _ ht
  have bound := textRun_bound _ _ _ _ _ _ ht
  have hnum : fr'.n = fr.n := (textRun_spec _ _ _ _ _ _ ht).1
  have tl : ∀ {i : Nat} {o : Oper}, ops[i]? = some o → ops.toList[i]? = some o := fun h => by simpa using h
  have lt' : ∀ {i : Nat} {o : Oper}, ops.toList[i]? = some o → ops[i]? = some o := fun h => by simpa using h
  -- at the end
  have fin : ∀ (listed : Array Bool) (a : Act) (w : World), (∃ π es1 es2, Mid ops w0 π0 H es fr' a0 listed a w π es1 es2) → Region.ready .any ops listed = [] → Q .normal a w := by
    rintro listed a w ⟨π, es1, es2, hM⟩ hr
    have all : ∀ n i, i < n → i < ops.size → listed.getD i false = true := by
      intro n
      induction n with
      | zero => intro i hi; omega
      | succ n ih =>
        intro i hi his
        cases hl : listed.getD i false with
        | true => rfl
        | false =>
          exfalso
          have ho : ops[i]? = some ops[i] := Array.getElem?_eq_getElem his
          have hmem : i ∈ Region.ready .any ops listed := mem_ready.2 ⟨by
              have : i < listed.size := by rw [hM.full]; exact his
              simpa [Array.getD_eq_getD_getElem?, this] using hl, ops[i], ho, fun e he hb => by
              have := deps_after hd (tl ho) he hb
              exact ih e.on (by omega) (by omega)⟩
          rw [hr] at hmem
          simp at hmem
    have hes2 : es2 = [] := by
      cases es2 with
      | nil => rfl
      | cons e es2 =>
        exfalso
        have h1 := getD_none (hM.todo e (by simp))
        have := all (e.1 + 1) e.1 (by omega) (by rw [← hM.full]; exact h1.2)
        rw [h1.1] at this
        cases this
    have hm := hM.mem
    have hc := hM.cut
    rw [hes2, List.append_nil] at hc
    rw [← hc] at hm
    refine hQ π a w hM.grown ⟨hM.size, fun t => hM.temps t fun j o hj _ => all (j + 1) j (by omega) (Array.getElem?_eq_some_iff.1 hj).1⟩ hm hM.defers
  intro fuel
  induction fuel with
  | zero =>
    intro listed a w hcount hM
    have hr : Region.ready .any ops listed = [] := by
      cases hr : Region.ready .any ops listed with
      | nil => rfl
      | cons i r =>
        exfalso
        have hi := (mem_ready.1 (show i ∈ Region.ready .any ops listed by rw [hr]; simp)).1
        obtain ⟨h0, hlt⟩ := getD_none hi
        have hmem : false ∈ listed.toList := by
          have : listed[i] = false := by simpa [Array.getD_eq_getD_getElem?, hlt] using h0
          rw [← this]
          simp
        have := List.count_pos_iff.2 hmem
        omega
    exact ⟨hr, fin listed a w hM hr⟩
  | succ fuel ih =>
    intro listed a w hcount hM
    refine ⟨fun hr => fin listed a w hM hr, fun i hi => ?_⟩
    obtain ⟨hil, o, ho, hedges⟩ := mem_ready.1 hi
    obtain ⟨hif, hlt⟩ := getD_none hil
    obtain ⟨π, es1, es2, M⟩ := hM
    have hcount' := count_step hlt hif hcount
    obtain ⟨fi, Hi, esb, esa, k1, k2, k3, k4, k5, k6⟩ := spec i o (tl ho)
    simp only [Nat.zero_add] at k3 k4 k5
    have hwaits : ∀ j, waitsFor o j = true → listed.getD j false = true := fun j hj => by
      obtain ⟨e, he, hb, hon⟩ := waits_edge hj
      rw [← hon]; exact hedges e he hb
    have hearly : ∀ j, waitsFor o j = true → j < i := fun j hj => by
      obtain ⟨e, he, hb, hon⟩ := waits_edge hj
      rw [← hon]; exact deps_after hd (tl ho) he hb
    -- what i uses
    have huse : ∀ t ∈ tmpsOf o, fi.get t = fr'.get t ∧ VRel π (fr'.get t) (a.tmps.getD t undef) := fun t ht =>
      ⟨k1 t fun m p hm hp hpd => by
        have := deps_use hd (tl ho) hp hpd ht
        have := hearly m this.1
        omega, M.temps t fun j p hj hjd => hwaits j (deps_use hd (tl ho) (tl hj) hjd ht).1⟩
    have hev : ∀ x ∈ o.op.operands.toList, fi.eval x = fr'.eval x := eval_congr fun t ht => (huse t ht).1
    have hrel : ∀ x ∈ o.op.operands.toList, VRel π (fr'.eval x) (a.eval x) := by
      intro x hx
      have hox : opdOk gl x = true := List.all_eq_true.1 (hops o (List.mem_of_getElem? (tl ho))) x hx
      cases x with
      | tmp t => exact (huse t (tmp_mem hx)).2
      | const v => exact flat_refl π v hox
      | global g =>
        obtain ⟨p, h1, h2, h3⟩ := (hg.mono M.grown) g (by simpa [opdOk, Nat.blt_eq] using hox)
        have := VRel.ptr g 0 p h1
        rw [h2, h3] at this
        exact this
      | func f => exact .func _ _ _ _ _ rfl rfl (fun i hi => by simp at hi) (fun i hi => by simp at hi)
    have hguard : ∀ k b, o.guard = some (k, b) → yieldedA ops fi k = yieldedA ops fr' k ∧ yielded ops a.tmps k = yieldedA ops fr' k := by
      intro k b hk
      have hki := deps_guard hd (tl ho) hk
      cases hpk : ops[k]? with
      | none =>
        rw [Array.getElem?_eq_none_iff] at hpk
        have := (Array.getElem?_eq_some_iff.1 ho).1
        omega
      | some p =>
        have hw := deps_wait_guard hd (tl ho) (tl hpk) hk
        unfold yieldedA yielded
        cases hpd : p.dst with
        | none => simp [hpk, hpd]
        | some t =>
          have e1 : fi.get t = fr'.get t := k1 t fun m q hm hq hqd => by
            have := deps_dst hd hq (tl hpk) hpd hqd
            omega
          have e2 : VRel π (fr'.get t) (a.tmps.getD t undef) := M.temps t fun j q hj hjd => by
            have := deps_dst hd (tl hj) (tl hpk) hpd hjd
            rw [this]; exact hwaits k hw
          simp only [hpk, Option.bind_some, hpd, e1, true_and]
          have hb := bool_rel e2
          by_cases htn : t < a.tmps.size
          · have e : a.tmps.getD t undef = a.tmps[t] := by simp [Array.getD_eq_getD_getElem?, htn]
            rw [e] at hb
            rw [Array.getElem?_eq_getElem htn]
            cases hf : fr'.get t with
            | bool b => rw [(hb b).1 hf]
            | _ =>
              cases ht' : a.tmps[t] with
              | bool b => have := (hb b).2 ht'; rw [hf] at this; cases this
              | _ => rfl
          · have e : fr'.get t = undef := by rw [Fr.get_def, if_neg (by rw [M.size]; exact htn)]
            rw [e, Array.getElem?_eq_none (Nat.le_of_not_lt htn)]
            rfl
    have hwant1 : Region.wanted o (yielded ops a.tmps) = Region.wanted o (yieldedA ops fi) := wanted_congr fun k b hk => by rw [(hguard k b hk).2, (hguard k b hk).1]
    have hwant2 : Region.wanted o (yieldedA ops fr') = Region.wanted o (yieldedA ops fi) := wanted_congr fun k b hk => by rw [(hguard k b hk).1]
    have hlate : ∀ (d : Tmp), o.dst = some d → ∀ (m : Nat) (p : Oper), i < m → ops.toList[m]? = some p → p.dst ≠ some d := fun d hod m p hm hp hpd => by
      have := deps_dst hd (tl ho) hp hpd hod
      omega
    have gon := hg.mono M.grown
    unfold wpOp
    rw [ho]
    simp only
    rw [hwant1]
    cases hw : Region.wanted o (yieldedA ops fi) with
    | false =>
      rw [if_neg (by simp)]
      obtain ⟨m1, m2⟩ := k6 hw
      have hnoti : ∀ e ∈ es, e.1 ≠ i := fun e he => by
        rw [m2] at he
        rcases List.mem_append.1 he with he | he
        · have := k3 e he; omega
        · have := k4 e he; omega
      refine ih _ _ _ hcount' ⟨π, es1, es2, M.next ho hil hedges (PLe.refl _) (fun d hod hdn => ?_) M.mem M.cut (fun e he => .inl he) (fun e he => ⟨he, hnoti e (by rw [M.cut]; simp [he])⟩)⟩
      rw [m1 d hod (hlate d hod)]
      exact VRel.undef _
    | true =>
      rw [if_pos rfl]
      refine .inl ?_
      obtain ⟨v, Hn, m1, m2, m3⟩ := k5 hw
      have hval : ∀ d, o.dst = some d → d < fr'.n → fr'.get d = v := fun d hod hdn => m2 d hod (by rw [← hnum]; exact hdn) (hlate d hod)
      by_cases hcl : classOf P o.op = .effect
      · -- an effect: it is the next
        rw [if_pos hcl] at m3
        have hcuts : es1 = esb ∧ es2 = (i, Hn) :: esa := by
          have hc := M.cut
          rw [m3, List.append_assoc, List.singleton_append] at hc
          have hbef : ∀ j ∈ (befs ops.toList).getD i [], listed.getD j false = true :=
            befs_listed hd (listed := fun j => listed.getD j false) (fun j p hj hl => M.closed j p (lt' hj) hl) (i + 1) i (by omega) o (tl ho) hedges
          rcases List.append_eq_append_iff.1 hc with ⟨c, h1, h2⟩ | ⟨c, h1, h2⟩
          · cases c with
            | nil => simp only [List.append_nil, List.nil_append] at h1 h2; exact ⟨h1, h2.symm⟩
            | cons x c =>
              exfalso
              simp only [List.cons_append, List.cons.injEq] at h2
              have := M.done (i, Hn) (by rw [h1, ← h2.1]; simp)
              rw [hif] at this
              cases this
          · rcases List.eq_nil_or_concat c with rfl | ⟨c, x, rfl⟩
            · simp only [List.append_nil, List.nil_append] at h1 h2; exact ⟨h1.symm, h2⟩
            · exfalso
              have hx : x ∈ es2 := by rw [h2]; simp
              have hes : es = (es1 ++ c) ++ x :: (i, Hn) :: esa := by rw [M.cut, h2]; simp [List.append_assoc]
              rw [hes] at hch
              have hb := hbef _ (chained_mid _ _ _ _ hch)
              have := (getD_none (M.todo x hx)).1
              rw [this] at hb
              cases hb
        obtain ⟨rfl, he2⟩ := hcuts
        unfold stepOp at m1
        rw [evalOp_congr hev] at m1
        rw [k2] at m1
        refine step_run_at hN hC m1 hrel M.mem gon (fun π' v' w' g1 g2 g3 => ih _ _ _ hcount' ⟨π', es1 ++ [(i, Hn)], esa, M.next ho hil hedges g1 (fun d hod hdn => by rw [hval d hod hdn]; exact g2) (by rw [lastHeap_snoc]; exact g3) (by rw [m3]) (fun e he => ?_) (fun e he => ?_)⟩)
        · rcases List.mem_append.1 he with he | he
          · exact .inl he
          · simp at he; rw [he]; exact .inr rfl
        · exact ⟨by rw [he2]; simp [he], by have := k4 e he; omega⟩
      · -- memory stays as it is
        rw [if_neg hcl] at m3
        have hnoti : ∀ e ∈ es, e.1 ≠ i := fun e he => by
          rw [m3] at he
          simp only [List.append_nil] at he
          rcases List.mem_append.1 he with he | he
          · have := k3 e he; omega
          · have := k4 e he; omega
        obtain ⟨hHn, hq⟩ := stepOp_quiet m1 hcl
        have hnow : ∃ u, evalOp P fr'.eval o (lastHeap H es1) = some (.val u (lastHeap H es1)) ∧ ∀ d, o.dst = some d → d < fr'.n → fr'.get d = u := by
          cases hc : classOf P o.op with
          | effect => exact absurd hc hcl
          | pure =>
            refine ⟨v, ?_, hval⟩
            rw [← evalOp_congr hev]
            exact pure_heap hq hc _
          | reads =>
            have hbef : ∀ (j : Nat) (p : Oper), ops[j]? = some p → (∀ e ∈ p.after, Region.binds .any e = true → listed.getD e.on false = true) → ∀ m ∈ (befs ops.toList).getD j [], listed.getD m false = true :=
              fun j p hj hl => befs_listed hd (listed := fun j => listed.getD j false) (fun j p hj hl => M.closed j p (lt' hj) hl) (j + 1) j (by omega) p (tl hj) hl
            have hs := hrd i o ho hc (by rw [hwant2]; exact hw)
            rw [M.cut] at hs
            obtain ⟨u, H2, e1, e2⟩ := readsSame_at es1 es2 H hs (fun e he hmem => by
              have hl := M.done e he
              have hlt' : e.1 < ops.size := by have := bound e (by rw [M.cut]; simp [he]); simpa using this
              have := hbef e.1 _ (Array.getElem?_eq_getElem hlt') (M.closed e.1 _ (Array.getElem?_eq_getElem hlt') hl) i hmem
              rw [hif] at this
              cases this) (fun e he hmem => by
              have := hbef i o ho hedges e.1 hmem
              rw [(getD_none (M.todo e he)).1] at this
              cases this)
            obtain ⟨u', hu'⟩ := quiet_heap e1 hcl
            injection hu' with hu1 hu2
            rw [hu2] at e1
            exact ⟨u, e1, fun d hod _ => (e2 d hod).symm⟩
        obtain ⟨u, hu1, hu2⟩ := hnow
        refine step_run_at hN hC (by rw [hu1]) hrel M.mem gon (fun π' v' w' g1 g2 g3 => ih _ _ _ hcount' ⟨π', es1, es2, M.next ho hil hedges g1 (fun d hod hdn => by rw [hu2 d hod hdn]; exact g2) g3 M.cut (fun e he => .inl he) (fun e he => ⟨he, hnoti e (by rw [M.cut]; simp [he])⟩)⟩)

/-- A region that draws its order. -/
theorem draw_run (hN : NamesOk P) (hC : CallOk P gl call) (hm : P.follows .mixedOrders = true) {id : Nat} {ops : Array Oper} {fr fr' : Fr} {H H' : Heap} {π : List Place} {a : Act} {w : World} {Q : Exit → Act → World → Prop}
    (h : runDraw P call ops fr H = some (fr', H')) (hF : FrRel π fr a.tmps) (hR : HRel w0 π H w) (hg : Globs gl π) (hops : ∀ o ∈ ops.toList, operOk gl o = true)
    (hQ : ∀ π' a' w', PLe π π' → FrRel π' fr' a'.tmps → HRel w0 π' H' w' → a'.defers = a.defers → Q .normal a' w') : (Code.region id ops true).wp P Q a w := by
  unfold runDraw at h
  cases ht : textRun P call ops ops.toList 0 fr H with
  | none => rw [ht] at h; cases h
  | some r =>
    obtain ⟨fr1, es⟩ := r
    rw [ht] at h
    simp only at h
    rw [Bool.cond_eq_ite] at h
    split at h
    · rename_i hc
      simp only [Bool.and_eq_true] at hc
      obtain ⟨⟨hd, hch⟩, hrd⟩ := hc
      simp only [Option.some.injEq, Prod.mk.injEq] at h
      obtain ⟨rfl, h2⟩ := h
      have hlast : lastHeap H es = H' := h2
      have hrd' : ∀ (i : Nat) (o : Oper), ops[i]? = some o → classOf P o.op = .reads → Region.wanted o (yieldedA ops fr1) = true → readsSame P fr1 (befs ops.toList) i o H es = true := by
        intro i o ho hc hw
        have := List.all_eq_true.1 hrd (o, i) (zip_mem (by simpa using ho))
        simp only [hc, hw, cond_true] at this
        exact this
      have hbound := textRun_bound _ _ _ _ _ _ ht
      obtain ⟨hn, hkeep, _, _⟩ := textRun_spec _ _ _ _ _ _ ht
      refine wp_region_any hm (turns_run hN hC ht hd hch hrd' hg hops (by rw [hlast]; exact hQ) ops.size _ a _ (by
        have := List.count_le_length (a := false) (l := (Array.replicate ops.size false).toList)
        simp only [Array.toList_replicate, List.length_replicate] at this ⊢; exact this) ⟨π, [], es, ?_⟩)
      refine ⟨rfl, fun e he => by simp at he, fun e he => ?_, hR.drew, PLe.refl _, fun i o ho hl => ?_, by rw [hn]; exact hF.size, fun t hall => ?_, rfl, by simp⟩
      · have := hbound e he
        have hlt : e.1 < ops.size := by simpa using this
        simp [Array.getD_eq_getD_getElem?, hlt]
      · exfalso
        have : i < ops.size := (Array.getElem?_eq_some_iff.1 ho).1
        simp [Array.getD_eq_getD_getElem?, this] at hl
      · rw [hkeep t fun p hp hpd => by
          obtain ⟨j, hj⟩ := List.getElem?_of_mem hp
          have hj' : ops[j]? = some p := by simpa using hj
          have := hall j p hj' hpd
          have hlt : j < ops.size := (Array.getElem?_eq_some_iff.1 hj').1
          simp [Array.getD_eq_getD_getElem?, hlt] at this]
        exact hF.get t
    · cases h
end
end Go.Ab
