/-
  A region that draws its order: every order of the model comes to what the abstract machine's run in the order of the text comes to. Conditions: those of each law.
-/
import Derived.Test.YtnemoodjbekngaaAbDraw
namespace Go.Ab
open Go.RowKit (Below)

def lastHeap (H : Heap) (es : List (Nat × Heap)) : Heap := match es.getLast? with | some (_, H') => H' | none => H
theorem lastHeap_cons (H : Heap) (i : Nat) (H1 : Heap) (es : List (Nat × Heap)) : lastHeap H ((i, H1) :: es) = lastHeap H1 es := by
  unfold lastHeap
  cases es with
  | nil => rfl
  | cons e es =>
    rw [List.getLast?_cons_cons]
    obtain ⟨y, hy⟩ : ∃ y, (e :: es).getLast? = some y := ⟨_, List.getLast?_eq_some_getLast (by simp)⟩
    rw [hy]
theorem lastHeap_snoc (H : Heap) (es : List (Nat × Heap)) (e : Nat × Heap) : lastHeap H (es ++ [e]) = e.2 := by simp [lastHeap]

section
variable {P : Program} {call : CallF} {ops : Array Oper}

theorem stepOp_quiet {fr : Fr} {o : Oper} {H H' : Heap} {v : Value} (h : stepOp P call fr o H = some (v, H')) (hc : classOf P o.op ≠ .effect) : H' = H ∧ evalOp P fr.eval o H = some (.val v H) := by
  unfold stepOp at h
  cases he : evalOp P fr.eval o H with
  | none => rw [he] at h; cases h
  | some r =>
    obtain ⟨v', rfl⟩ := quiet_heap he hc
    rw [he] at h
    simp only [Option.some.injEq, Prod.mk.injEq] at h
    obtain ⟨rfl, rfl⟩ := h
    exact ⟨rfl, rfl⟩

theorem put_get_other {fr : Fr} {dst : Option Tmp} {v : Value} {t : Nat} (h : dst ≠ some t) : (fr.put dst v).get t = fr.get t := by
  cases dst with
  | none => rfl
  | some d => rw [Fr.put, Fr.get_set, if_neg (fun hc => h (by rw [hc.1]))]
theorem put_n (fr : Fr) (dst : Option Tmp) (v : Value) : (fr.put dst v).n = fr.n := by cases dst <;> rfl

theorem textRun_spec : ∀ (l : List Oper) (i : Nat) (fr : Fr) (H : Heap) (fr' : Fr) (es : List (Nat × Heap)), textRun P call ops l i fr H = some (fr', es) →
    fr'.n = fr.n ∧ (∀ t, (∀ p ∈ l, p.dst ≠ some t) → fr'.get t = fr.get t) ∧ (∀ e ∈ es, i ≤ e.1) ∧
    ∀ (j : Nat) (o : Oper), l[j]? = some o → ∃ (fj : Fr) (Hj : Heap) (esb esa : List (Nat × Heap)),
      (∀ t, (∀ (m : Nat) (p : Oper), j ≤ m → l[m]? = some p → p.dst ≠ some t) → fj.get t = fr'.get t) ∧ Hj = lastHeap H esb ∧ (∀ e ∈ esb, e.1 < i + j) ∧ (∀ e ∈ esa, i + j < e.1) ∧
      (Region.wanted o (yieldedA ops fj) = true → ∃ v H'j, stepOp P call fj o Hj = some (v, H'j) ∧ (∀ d, o.dst = some d → d < fr.n → (∀ (m : Nat) (p : Oper), j < m → l[m]? = some p → p.dst ≠ some d) → fr'.get d = v) ∧
        es = esb ++ (if classOf P o.op = .effect then [(i + j, H'j)] else []) ++ esa) ∧
      (Region.wanted o (yieldedA ops fj) = false → (∀ d, o.dst = some d → (∀ (m : Nat) (p : Oper), j < m → l[m]? = some p → p.dst ≠ some d) → fr'.get d = undef) ∧ es = esb ++ esa)
  | [], i, fr, H, fr', es, h => by
    simp only [textRun, Option.some.injEq, Prod.mk.injEq] at h
    obtain ⟨rfl, rfl⟩ := h
    exact ⟨rfl, fun t _ => rfl, (fun e he => by simp at he), fun j o hj => by simp at hj⟩
  | o :: l, i, fr, H, fr', es, h => by
    simp only [textRun] at h
    cases hw : Region.wanted o (yieldedA ops fr) with
    | true =>
      rw [hw] at h
      simp only [cond_true] at h
      cases hs : stepOp P call fr o H with
      | none => rw [hs] at h; cases h
      | some vh =>
        obtain ⟨v, H1⟩ := vh
        rw [hs] at h
        simp only at h
        cases ht : textRun P call ops l (i + 1) (fr.put o.dst v) H1 with
        | none => rw [ht] at h; cases h
        | some r =>
          obtain ⟨fr2, es2⟩ := r
          rw [ht] at h
          simp only [Option.some.injEq, Prod.mk.injEq] at h
          obtain ⟨rfl, hes⟩ := h
          obtain ⟨g1, g2, g3, g4⟩ := textRun_spec l (i + 1) _ _ _ _ ht
          have hes' : es = (if classOf P o.op = .effect then [(i, H1)] else []) ++ es2 := by
            rw [← hes]
            cases hc : classOf P o.op <;> simp
          have hH : ∀ es', lastHeap H ((if classOf P o.op = .effect then [(i, H1)] else []) ++ es') = lastHeap H1 es' := by
            intro es'
            by_cases hc : classOf P o.op = .effect
            · rw [if_pos hc]; exact lastHeap_cons _ _ _ _
            · rw [if_neg hc, (stepOp_quiet hs hc).1]; rfl
          refine ⟨by rw [g1, put_n], fun t ht' => ?_, fun e he => ?_, fun j p hj => ?_⟩
          · rw [g2 t (fun p hp => ht' p (by simp [hp])), put_get_other (ht' o (by simp))]
          · rw [hes'] at he
            rcases List.mem_append.1 he with he | he
            · split at he
              · simp at he; rw [he]; exact Nat.le_refl _
              · simp at he
            · have := g3 e he; omega
          · cases j with
            | zero =>
              simp only [List.getElem?_cons_zero, Option.some.injEq] at hj
              subst hj
              refine ⟨fr, H, [], es2, fun t ht' => ?_, rfl, (fun e he => by simp at he), (fun e he => by have := g3 e he; omega), fun _ => ⟨v, H1, hs, fun d hd hdn hlate => ?_, by simpa using hes'⟩, (fun h0 => by rw [hw] at h0; cases h0)⟩
              · have h0 : o.dst ≠ some t := ht' 0 o (Nat.le_refl _) rfl
                rw [g2 t (fun p hp => by
                  obtain ⟨m, hm⟩ := List.getElem?_of_mem hp
                  exact ht' (m + 1) p (by omega) (by simpa using hm)), put_get_other h0]
              · rw [g2 d (fun p hp => by
                  obtain ⟨m, hm⟩ := List.getElem?_of_mem hp
                  exact hlate (m + 1) p (by omega) (by simpa using hm)), hd, Fr.put, Fr.get_set, if_pos ⟨rfl, hdn⟩]
            | succ j =>
              obtain ⟨fj, Hj, esb, esa, k1, k2, k3, k4, k5, k6⟩ := g4 j p (by simpa using hj)
              have sh : ∀ {t : Nat}, (∀ (m : Nat) (q : Oper), j + 1 ≤ m → (o :: l)[m]? = some q → q.dst ≠ some t) → ∀ (m : Nat) (q : Oper), j ≤ m → l[m]? = some q → q.dst ≠ some t :=
                fun h m q hm hq => h (m + 1) q (by omega) (by simpa using hq)
              have sh2 : ∀ {t : Nat}, (∀ (m : Nat) (q : Oper), j + 1 < m → (o :: l)[m]? = some q → q.dst ≠ some t) → ∀ (m : Nat) (q : Oper), j < m → l[m]? = some q → q.dst ≠ some t :=
                fun h m q hm hq => h (m + 1) q (by omega) (by simpa using hq)
              refine ⟨fj, Hj, (if classOf P o.op = .effect then [(i, H1)] else []) ++ esb, esa, fun t ht' => k1 t (sh ht'), by rw [hH, k2], fun e he => ?_, (fun e he => by have := k4 e he; omega), fun hw' => ?_, fun hw' => ?_⟩
              · rcases List.mem_append.1 he with he | he
                · split at he
                  · simp at he; rw [he]; show i < _; omega
                  · simp at he
                · have := k3 e he; omega
              · obtain ⟨v', H'j, m1, m2, m3⟩ := k5 hw'
                refine ⟨v', H'j, m1, fun d hd hdn hl => m2 d hd (by rw [put_n]; exact hdn) (sh2 hl), ?_⟩
                rw [hes', m3, show i + (j + 1) = i + 1 + j by omega]
                simp [List.append_assoc]
              · obtain ⟨m1, m2⟩ := k6 hw'
                exact ⟨fun d hd hl => m1 d hd (sh2 hl), by rw [hes', m2, List.append_assoc]⟩
    | false =>
      rw [hw] at h
      simp only [cond_false] at h
      obtain ⟨g1, g2, g3, g4⟩ := textRun_spec l (i + 1) _ _ _ _ h
      refine ⟨by rw [g1, put_n], fun t ht' => ?_, (fun e he => by have := g3 e he; omega), fun j p hj => ?_⟩
      · rw [g2 t (fun p hp => ht' p (by simp [hp])), put_get_other (ht' o (by simp))]
      · cases j with
        | zero =>
          simp only [List.getElem?_cons_zero, Option.some.injEq] at hj
          subst hj
          refine ⟨fr, H, [], es, fun t ht' => ?_, rfl, (fun e he => by simp at he), (fun e he => by have := g3 e he; omega), (fun h0 => by rw [hw] at h0; cases h0), fun _ => ⟨fun d hd hlate => ?_, rfl⟩⟩
          · have h0 : o.dst ≠ some t := ht' 0 o (Nat.le_refl _) rfl
            rw [g2 t (fun p hp => by
              obtain ⟨m, hm⟩ := List.getElem?_of_mem hp
              exact ht' (m + 1) p (by omega) (by simpa using hm)), put_get_other h0]
          · rw [g2 d (fun p hp => by
              obtain ⟨m, hm⟩ := List.getElem?_of_mem hp
              exact hlate (m + 1) p (by omega) (by simpa using hm)), hd, Fr.put, Fr.get_set]
            by_cases hdn : d < fr.n
            · rw [if_pos ⟨rfl, hdn⟩]
            · rw [if_neg (fun hh => hdn hh.2), Fr.get_def, if_neg hdn]
        | succ j =>
          obtain ⟨fj, Hj, esb, esa, k1, k2, k3, k4, k5, k6⟩ := g4 j p (by simpa using hj)
          have sh : ∀ {t : Nat}, (∀ (m : Nat) (q : Oper), j + 1 ≤ m → (o :: l)[m]? = some q → q.dst ≠ some t) → ∀ (m : Nat) (q : Oper), j ≤ m → l[m]? = some q → q.dst ≠ some t :=
            fun h m q hm hq => h (m + 1) q (by omega) (by simpa using hq)
          have sh2 : ∀ {t : Nat}, (∀ (m : Nat) (q : Oper), j + 1 < m → (o :: l)[m]? = some q → q.dst ≠ some t) → ∀ (m : Nat) (q : Oper), j < m → l[m]? = some q → q.dst ≠ some t :=
            fun h m q hm hq => h (m + 1) q (by omega) (by simpa using hq)
          refine ⟨fj, Hj, esb, esa, fun t ht' => k1 t (sh ht'), k2, (fun e he => by have := k3 e he; omega), (fun e he => by have := k4 e he; omega), fun hw' => ?_, fun hw' => ?_⟩
          · obtain ⟨v', H'j, m1, m2, m3⟩ := k5 hw'
            exact ⟨v', H'j, m1, fun d hd hdn hl => m2 d hd (by rw [put_n]; exact hdn) (sh2 hl), by rw [m3, show i + (j + 1) = i + 1 + j by omega]⟩
          · obtain ⟨m1, m2⟩ := k6 hw'
            exact ⟨fun d hd hl => m1 d hd (sh2 hl), m2⟩
end

/-! ### What the checks tell -/
section
variable {ops : List Oper}
theorem waits_edge {o : Oper} {j : Nat} (h : waitsFor o j = true) : ∃ e ∈ o.after, Region.binds .any e = true ∧ e.on = j := by
  unfold waitsFor at h
  obtain ⟨e, he, hb⟩ := List.any_eq_true.1 h
  simp only [Bool.and_eq_true] at hb
  exact ⟨e, by simpa using he, hb.1, Nat.eq_of_beq_eq_true hb.2⟩
theorem zip_mem {i : Nat} {o : Oper} (h : ops[i]? = some o) : (o, i) ∈ ops.zipIdx := by
  rw [List.mem_zipIdx_iff_getElem?]; simpa using h
theorem deps_pair (h : depsOk ops = true) {i j : Nat} {o p : Oper} (ho : ops[i]? = some o) (hp : ops[j]? = some p) : depOk o i p j = true := by
  have h1 := List.all_eq_true.1 h (o, i) (zip_mem ho)
  simp only [Bool.and_eq_true] at h1
  exact List.all_eq_true.1 h1.1.1 (p, j) (zip_mem hp)
theorem deps_after (h : depsOk ops = true) {i : Nat} {o : Oper} (ho : ops[i]? = some o) {e : Edge} (he : e ∈ o.after) (hb : Region.binds .any e = true) : e.on < i := by
  have h1 := List.all_eq_true.1 h (o, i) (zip_mem ho)
  simp only [Bool.and_eq_true] at h1
  have h2 := List.all_eq_true.1 h1.1.2 e (by simpa using he)
  rw [hb] at h2
  simpa [Nat.blt_eq] using h2
theorem deps_guard (h : depsOk ops = true) {i k : Nat} {b : Bool} {o : Oper} (ho : ops[i]? = some o) (hg : o.guard = some (k, b)) : k < i := by
  have h1 := List.all_eq_true.1 h (o, i) (zip_mem ho)
  simp only [Bool.and_eq_true, hg] at h1
  simpa [Nat.blt_eq] using h1.2
theorem deps_use (h : depsOk ops = true) {i j t : Nat} {o p : Oper} (ho : ops[i]? = some o) (hp : ops[j]? = some p) (hd : p.dst = some t) (ht : t ∈ tmpsOf o) : waitsFor o j = true ∧ i ≠ j := by
  have h1 := deps_pair h ho hp
  unfold depOk at h1
  simp only [hd, Bool.and_eq_true] at h1
  have h2 := h1.1.1
  have hany : (tmpsOf o).any (Nat.beq t) = true := List.any_eq_true.2 ⟨t, ht, Nat.beq_refl t⟩
  rw [hany] at h2
  simp only [Bool.not_true, Bool.false_or, Bool.and_eq_true, Bool.not_eq_true'] at h2
  exact ⟨h2.1, fun e => by subst e; have := h2.2; rw [Nat.beq_refl] at this; cases this⟩
theorem deps_dst (h : depsOk ops = true) {i j t : Nat} {o p : Oper} (ho : ops[i]? = some o) (hp : ops[j]? = some p) (hd : p.dst = some t) (hd' : o.dst = some t) : i = j := by
  have h1 := deps_pair h ho hp
  unfold depOk at h1
  simp only [hd, hd', Bool.and_eq_true, Nat.beq_refl, Bool.not_true, Bool.or_false] at h1
  exact Nat.eq_of_beq_eq_true h1.1.2
theorem deps_wait_guard (h : depsOk ops = true) {i k : Nat} {b : Bool} {o p : Oper} (ho : ops[i]? = some o) (hp : ops[k]? = some p) (hg : o.guard = some (k, b)) : waitsFor o k = true := by
  have h1 := deps_pair h ho hp
  unfold depOk at h1
  simp only [Bool.and_eq_true, hg, Nat.beq_refl, Bool.not_true, Bool.false_or] at h1
  exact h1.2

/-- What comes ahead in every order. -/
def befStep (acc : List (List Nat)) (o : Oper) : List Nat := o.after.toList.flatMap fun e => bif Region.binds .any e then e.on :: acc.getD e.on [] else []
theorem befs_go : ∀ (l : List Oper) (acc : List (List Nat)) (i : Nat), (l.foldl (fun acc o => acc ++ [befStep acc o]) acc).getD (acc.length + i) [] =
      (match l[i]? with | some o => befStep (l.foldl (fun acc o => acc ++ [befStep acc o]) acc |>.take (acc.length + i)) o | none => []) ∧
    (l.foldl (fun acc o => acc ++ [befStep acc o]) acc).take acc.length = acc ∧ (l.foldl (fun acc o => acc ++ [befStep acc o]) acc).length = acc.length + l.length
  | [], acc, i => by simp
  | o :: l, acc, i => by
    obtain ⟨_, h2, h3⟩ := befs_go l (acc ++ [befStep acc o]) 0
    have hlen : (acc ++ [befStep acc o]).length = acc.length + 1 := by simp
    simp only [List.foldl_cons]
    refine ⟨?_, ?_, by rw [h3, hlen]; simp; omega⟩
    · cases i with
      | zero =>
        have e1 : (l.foldl (fun acc o => acc ++ [befStep acc o]) (acc ++ [befStep acc o])).take acc.length = acc := by
          have := congrArg (List.take acc.length) h2
          rw [hlen, List.take_take] at this
          simpa using this
        have e2 : (l.foldl (fun acc o => acc ++ [befStep acc o]) (acc ++ [befStep acc o]))[acc.length]? = some (befStep acc o) := by
          have := congrArg (fun x : List (List Nat) => x[acc.length]?) h2
          simp only [hlen] at this
          rw [List.getElem?_take_of_lt (by omega)] at this
          simpa using this
        simp [List.getD_eq_getElem?_getD, e1, e2]
      | succ i =>
        obtain ⟨h1, _, _⟩ := befs_go l (acc ++ [befStep acc o]) i
        rw [hlen] at h1
        rw [show acc.length + (i + 1) = acc.length + 1 + i by omega, h1]
        simp
    · have := congrArg (List.take acc.length) h2
      rw [hlen, List.take_take] at this
      simpa using this
theorem befs_get (i : Nat) : (befs ops).getD i [] = (match ops[i]? with | some o => befStep ((befs ops).take i) o | none => []) := by
  have := (befs_go ops [] i).1
  simpa [befs, befStep] using this

/-- Listed operations hold all that comes ahead of them. -/
theorem befs_listed (hd : depsOk ops = true) {listed : Nat → Bool} (hc : ∀ (i : Nat) (o : Oper), ops[i]? = some o → listed i = true → ∀ e ∈ o.after, Region.binds .any e = true → listed e.on = true) :
    ∀ (n i : Nat), i < n → ∀ (o : Oper), ops[i]? = some o → (∀ e ∈ o.after, Region.binds .any e = true → listed e.on = true) → ∀ j ∈ (befs ops).getD i [], listed j = true := by
  intro n
  induction n with
  | zero => intro i hi; omega
  | succ n ih =>
    intro i hi o ho hl j hj
    rw [befs_get, ho] at hj
    simp only [befStep] at hj
    obtain ⟨e, he, hj⟩ := List.mem_flatMap.1 hj
    cases hb : Region.binds .any e with
    | false => rw [hb] at hj; simp at hj
    | true =>
      rw [hb] at hj
      have he' : e ∈ o.after := by simpa using he
      have hlt := deps_after hd ho he' hb
      have hle := hl e he' hb
      simp only [cond_true, List.mem_cons] at hj
      rcases hj with rfl | hj
      · exact hle
      · have hj' : j ∈ (befs ops).getD e.on [] := by
          rwa [List.getD_eq_getElem?_getD, List.getElem?_take_of_lt hlt, ← List.getD_eq_getElem?_getD] at hj
        cases hp : ops[e.on]? with
        | none => rw [befs_get, hp] at hj'; simp at hj'
        | some p => exact ih e.on (by omega) p hp (hc e.on p hp hle) j hj'
end
end Go.Ab
