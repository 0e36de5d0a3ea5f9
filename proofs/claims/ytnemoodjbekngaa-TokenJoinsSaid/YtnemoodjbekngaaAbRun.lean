/-
  The abstract machine's runs of code and of functions against the model's. Conditions: those of each law.
-/
import Derived.Test.YtnemoodjbekngaaAbTurns
import Derived.LoopN
namespace Go.Ab
open Go.RowKit (Below)

def codeOk (gl : Nat) : Code → Bool
  | .region _ ops _ => ops.toList.all (operOk gl)
  | .seq a b => codeOk gl a && codeOk gl b
  | .cond c t e => opdOk gl c && codeOk gl t && codeOk gl e
  | .block _ c => codeOk gl c
  | .loop c => codeOk gl c
  | _ => true
def progOk (gl : Nat) (P : Program) : Bool := P.funcs.toList.all fun fn => match fn.body with | some c => codeOk gl c | none => true

def AExit.out : AExit → Exit
  | .normal => .normal
  | .exit id => .exit id
  | .ret => .ret

section
variable {P : Program} {gl : Nat} {w0 : World} {call : CallF}

/-- What a run of code comes to. -/
def CodeSim (P : Program) (gl : Nat) (w0 : World) (c : Code) (fr : Fr) (H : Heap) (x : AExit) (fr' : Fr) (H' : Heap) : Prop :=
  ∀ (π : List Place) (a : Act) (w : World) (Q : Exit → Act → World → Prop), FrRel π fr a.tmps → HRel w0 π H w → Globs gl π →
    (∀ π' a' w', PLe π π' → FrRel π' fr' a'.tmps → HRel w0 π' H' w' → a'.defers = a.defers → Q x.out a' w') → c.wp P Q a w

theorem then_normal {K : Act → World → Prop} {Q : Exit → Act → World → Prop} {a : Act} {w : World} (h : K a w) : Exit.then K Q .normal a w := h

theorem code_run (hN : NamesOk P) (hm : P.follows .mixedOrders = true) (hC : CallOk P gl call) (fuel : Nat) : ∀ (c : Code) (fr : Fr) (H : Heap) (x : AExit) (fr' : Fr) (H' : Heap),
    codeOk gl c = true → evalC P call fuel c fr H = some (x, fr', H') → CodeSim P gl w0 c fr H x fr' H' := by
  intro c
  induction c with
  | skip =>
    intro fr H x fr' H' _ h π a w Q hF hR hg hQ
    simp only [evalC, Option.some.injEq, Prod.mk.injEq] at h
    obtain ⟨rfl, rfl, rfl⟩ := h
    exact wp_skip (hQ π a w (PLe.refl _) hF hR rfl)
  | label l =>
    intro fr H x fr' H' _ h π a w Q hF hR hg hQ
    simp only [evalC, Option.some.injEq, Prod.mk.injEq] at h
    obtain ⟨rfl, rfl, rfl⟩ := h
    exact wp_label (hQ π a w (PLe.refl _) hF hR rfl)
  | exit id =>
    intro fr H x fr' H' _ h π a w Q hF hR hg hQ
    simp only [evalC, Option.some.injEq, Prod.mk.injEq] at h
    obtain ⟨rfl, rfl, rfl⟩ := h
    exact wp_exit (hQ π a w (PLe.refl _) hF hR rfl)
  | ret =>
    intro fr H x fr' H' _ h π a w Q hF hR hg hQ
    simp only [evalC, Option.some.injEq, Prod.mk.injEq] at h
    obtain ⟨rfl, rfl, rfl⟩ := h
    exact wp_ret (hQ π a w (PLe.refl _) hF hR rfl)
  | region id ops draw =>
    intro fr H x fr' H' hc h π a w Q hF hR hg hQ
    have hops : ∀ o ∈ ops.toList, operOk gl o = true := List.all_eq_true.1 hc
    simp only [evalC] at h
    cases draw with
    | true =>
      simp only [cond_true] at h
      cases hr : runDraw P call ops fr H with
      | none => rw [hr] at h; cases h
      | some r =>
        obtain ⟨fr1, H1⟩ := r
        rw [hr] at h
        simp only [Option.some.injEq, Prod.mk.injEq] at h
        obtain ⟨rfl, rfl, rfl⟩ := h
        exact draw_run hN hC hm hr hF hR hg hops hQ
    | false =>
      simp only [cond_false] at h
      cases hr : runOps P call ops ops.toList fr H with
      | none => rw [hr] at h; cases h
      | some r =>
        obtain ⟨fr1, H1⟩ := r
        rw [hr] at h
        simp only [Option.some.injEq, Prod.mk.injEq] at h
        obtain ⟨rfl, rfl, rfl⟩ := h
        refine wp_region ?_
        have := ops_run hN hC (Q := Q) ops.toList 0 fr H a w π (fun j => by simp) hr hF hR hg hops hQ
        rwa [List.range_eq_range']
  | seq c d ihc ihd =>
    intro fr H x fr' H' hc h π a w Q hF hR hg hQ
    simp only [codeOk, Bool.and_eq_true] at hc
    simp only [evalC] at h
    cases hr : evalC P call fuel c fr H with
    | none => rw [hr] at h; cases h
    | some r =>
      obtain ⟨y, fr1, H1⟩ := r
      rw [hr] at h
      refine wp_seq (ihc fr H y fr1 H1 hc.1 hr π a w _ hF hR hg fun π' a' w' g1 g2 g3 g4 => ?_)
      cases y with
      | normal => exact ihd fr1 H1 x fr' H' hc.2 h π' a' w' Q g2 g3 (hg.mono g1) fun π2 a2 w2 k1 k2 k3 k4 => hQ π2 a2 w2 (g1.trans k1) k2 k3 (by rw [k4, g4])
      | exit id =>
        simp only [Option.some.injEq, Prod.mk.injEq] at h
        obtain ⟨rfl, rfl, rfl⟩ := h
        exact hQ π' a' w' g1 g2 g3 g4
      | ret =>
        simp only [Option.some.injEq, Prod.mk.injEq] at h
        obtain ⟨rfl, rfl, rfl⟩ := h
        exact hQ π' a' w' g1 g2 g3 g4
  | cond c t e iht ihe =>
    intro fr H x fr' H' hc h π a w Q hF hR hg hQ
    simp only [codeOk, Bool.and_eq_true] at hc
    simp only [evalC] at h
    have hb := bool_rel (opd_rel hF hg hc.1.1)
    split at h
    · rename_i b hv
      have hv' := (hb b).1 hv
      cases b with
      | true => exact wp_cond_true hv' (iht _ _ _ _ _ hc.1.2 h π a w Q hF hR hg hQ)
      | false => exact wp_cond_false hv' (ihe _ _ _ _ _ hc.2 h π a w Q hF hR hg hQ)
    · cases h
  | block id c ih =>
    intro fr H x fr' H' hc h π a w Q hF hR hg hQ
    simp only [evalC] at h
    cases hr : evalC P call fuel c fr H with
    | none => rw [hr] at h; cases h
    | some r =>
      obtain ⟨y, fr1, H1⟩ := r
      rw [hr] at h
      refine wp_block (ih fr H y fr1 H1 hc hr π a w _ hF hR hg fun π' a' w' g1 g2 g3 g4 => ?_)
      cases y with
      | exit j =>
        simp only at h
        by_cases hj : j = id
        · subst hj
          rw [Nat.beq_refl] at h
          simp only [cond_true, Option.some.injEq, Prod.mk.injEq] at h
          obtain ⟨rfl, rfl, rfl⟩ := h
          simp only [AExit.out, Exit.inBlock, if_true]
          exact hQ π' a' w' g1 g2 g3 g4
        · rw [Tr.nbeq_ne hj] at h
          simp only [cond_false, Option.some.injEq, Prod.mk.injEq] at h
          obtain ⟨rfl, rfl, rfl⟩ := h
          simp only [AExit.out, Exit.inBlock, if_neg hj]
          exact hQ π' a' w' g1 g2 g3 g4
      | normal =>
        simp only [Option.some.injEq, Prod.mk.injEq] at h
        obtain ⟨rfl, rfl, rfl⟩ := h
        exact hQ π' a' w' g1 g2 g3 g4
      | ret =>
        simp only [Option.some.injEq, Prod.mk.injEq] at h
        obtain ⟨rfl, rfl, rfl⟩ := h
        exact hQ π' a' w' g1 g2 g3 g4
  | loop c ih =>
    intro fr H x fr' H' hc h π a w Q hF hR hg hQ
    simp only [evalC] at h
    refine wp_loop_rounds fuel ?_
    have key : ∀ (n : Nat) (fr : Fr) (H : Heap) (π2 : List Place) (a2 : Act) (w2 : World), iter (fun fr H => evalC P call fuel c fr H) n fr H = some (x, fr', H') → PLe π π2 → FrRel π2 fr a2.tmps → HRel w0 π2 H w2 → a2.defers = a.defers → Code.rounds P c Q n a2 w2 := by
      intro n
      induction n with
      | zero => intro fr H π2 a2 w2 h; cases h
      | succ n ihn =>
        intro fr H π2 a2 w2 h k1 k2 k3 k4
        simp only [iter] at h
        cases hr : evalC P call fuel c fr H with
        | none => rw [hr] at h; cases h
        | some r =>
          obtain ⟨y, fr1, H1⟩ := r
          rw [hr] at h
          rw [rounds_succ]
          refine ih fr H y fr1 H1 hc hr π2 a2 w2 _ k2 k3 (hg.mono k1) fun π' a' w' g1 g2 g3 g4 => ?_
          cases y with
          | normal => exact ihn fr1 H1 π' a' w' h (k1.trans g1) g2 g3 (by rw [g4, k4])
          | exit id =>
            simp only [Option.some.injEq, Prod.mk.injEq] at h
            obtain ⟨rfl, rfl, rfl⟩ := h
            exact hQ π' a' w' (k1.trans g1) g2 g3 (by rw [g4, k4])
          | ret =>
            simp only [Option.some.injEq, Prod.mk.injEq] at h
            obtain ⟨rfl, rfl, rfl⟩ := h
            exact hQ π' a' w' (k1.trans g1) g2 g3 (by rw [g4, k4])
    exact key fuel fr H π a w h (PLe.refl _) hF hR rfl
  | _ =>
    intro fr H x fr' H' _ h
    simp only [evalC] at h
    cases h

theorem result_run {π : List Place} {fr : Fr} {H : Heap} {a : Act} {w : World} (hF : FrRel π fr a.tmps) (hR : HRel w0 π H w) {r : ResultVar} {v : Value} (h : resultA P fr H r = some v) :
    ∃ v', (match r with | .tmp t => pure (a.tmps.getD t undef) | .cell b t => do loadVar t (← asAddr (a.tmps.getD b undef)) : Sem Value).run P w = .ok v' w ∧ VRel π v v' := by
  cases r with
  | tmp t =>
    simp only [resultA, Option.some.injEq] at h
    subst h
    exact ⟨_, rfl, hF.get t⟩
  | cell b t =>
    simp only [resultA] at h
    obtain ⟨v', h1, h2⟩ := load_run hR h (hF.get b)
    refine ⟨v', ?_, h2⟩
    have hb := hF.get b
    simp only [Instr.loadAt] at h1
    cases hb' : fr.get b with
    | pointer x =>
      rw [hb'] at hb h
      generalize hz : a.tmps.getD b undef = z at hb h1
      cases hb with
      | ptr b o p hp =>
        simp only [hz]
        simpa [Instr.sureAddr, asAddr] using h1
      | _ => simp [loadA] at h
    | _ => rw [hb'] at h; simp [loadA] at h

theorem results_run {π : List Place} {fr : Fr} {H : Heap} {a : Act} {w : World} (hF : FrRel π fr a.tmps) (hR : HRel w0 π H w) : ∀ (l : List ResultVar) (vs : List Value), resultsA P fr H l = some vs →
    ∃ vs' : List Value, (l.mapM (fun r => (match r with | .tmp t => pure (a.tmps.getD t undef) | .cell b t => do loadVar t (← asAddr (a.tmps.getD b undef)) : Sem Value))).run P w = .ok vs' w ∧ LRel π vs vs'
  | [], vs, h => by
    simp only [resultsA, Option.some.injEq] at h
    subst h
    exact ⟨[], rfl, rfl, fun i hi => by simp at hi⟩
  | r :: l, vs, h => by
    simp only [resultsA] at h
    cases h1 : resultA P fr H r with
    | none => rw [h1] at h; cases h
    | some v =>
      cases h2 : resultsA P fr H l with
      | none => rw [h1, h2] at h; cases h
      | some vs1 =>
        rw [h1, h2] at h
        simp only [Option.some.injEq] at h
        subst h
        obtain ⟨v', k1, k2⟩ := result_run (P := P) hF hR h1
        obtain ⟨vs', m1, m2⟩ := results_run hF hR l vs1 h2
        refine ⟨v' :: vs', ?_, by simp [m2.1], fun i hi => ?_⟩
        · rw [List.mapM_cons]
          simp only [Sem.run_bind, k1, m1, Result.andThen]
          rfl
        · cases i with
          | zero => exact k2
          | succ i => exact m2.2 i (by simpa using hi)

theorem tupled_rel {π : List Place} {vs vs' : List Value} (h : LRel π vs vs') : VRel π (tupled vs) (tupled vs') := by
  match vs, vs', h with
  | [], [], _ => exact .tuple #[] #[] rfl (fun i hi => by simp at hi)
  | [v], [v'], h => exact h.2 0 (by simp)
  | [], _ :: _, h => exact absurd h.1 (by simp)
  | _ :: _, [], h => exact absurd h.1 (by simp)
  | [_], _ :: _ :: _, h => exact absurd h.1 (by simp)
  | _ :: _ :: _, [_], h => exact absurd h.1 (by simp)
  | v :: u :: r, v' :: u' :: r', h =>
    have hl := h.1
    exact .tuple _ _ (by simpa using hl) (fun i hi => by have := h.2 i (by simpa using hi); rwa [arr_getD_toList, arr_getD_toList])

theorem results_all {π : List Place} {fr : Fr} {H : Heap} {a : Act} {w : World} (hF : FrRel π fr a.tmps) (hR : HRel w0 π H w) {fn : Func} {vs : List Value} (h : resultsA P fr H fn.results.toList = some vs) :
    ∃ v', (results fn a.tmps).run P w = .ok v' w ∧ VRel π (tupled vs) v' := by
  obtain ⟨vs', h1, h2⟩ := results_run (P := P) hF hR _ _ h
  refine ⟨tupled vs', ?_, tupled_rel h2⟩
  unfold results
  rw [Array.mapM_eq_mapM_toList]
  have h1' := h1
  simp only [Sem.run_bind, Sem.run_map]
  refine Eq.trans (congrArg (fun r => Result.andThen (Result.andThen r _) _) h1') ?_
  match vs' with
  | [] => rfl
  | [v] => rfl
  | v :: u :: r => rfl

theorem setAll_get : ∀ (l : List Value) (i : Nat) (t : Tr Value) (j : Nat), (setAll l i t).get j = if i ≤ j ∧ j < i + l.length then l[j - i]? else t.get j
  | [], i, t, j => by simp only [setAll, List.length_nil]; rw [if_neg (by omega)]
  | v :: l, i, t, j => by
    simp only [setAll, setAll_get l, Tr.get_set, List.length_cons]
    by_cases h1 : i + 1 ≤ j ∧ j < i + 1 + l.length
    · rw [if_pos h1, if_pos (by omega), show j - i = (j - (i + 1)) + 1 by omega, List.getElem?_cons_succ]
    · rw [if_neg h1]
      by_cases h2 : j = i
      · subst h2
        rw [if_pos rfl, if_pos (by omega)]
        simp
      · rw [if_neg h2, if_neg (by omega)]
theorem nil_get (j : Nat) : (Tr.nil : Tr Value).get j = none := by
  have h : ∀ n j, j < n → (Tr.nil : Tr Value).get j = none := by
    intro n
    induction n with
    | zero => intro j hj; omega
    | succ n ih =>
      intro j hj
      rw [Tr.get_eq]
      split
      · rfl
      · split
        · exact ih _ (by omega)
        · exact ih _ (by omega)
  exact h (j + 1) j (by omega)
theorem init_rel {π : List Place} {args args' : Array Value} (h : ARel π args args') (n : Nat) : FrRel π (Fr.init n args) (args' ++ Array.replicate (n - args'.size) undef) := by
  have hs := h.1
  refine ⟨by simp [Fr.init, hs], fun i => ?_⟩
  unfold Fr.init
  rw [Fr.get_mk, setAll_get, nil_get]
  simp only [Nat.zero_le, true_and, Nat.zero_add, Array.length_toList, Nat.sub_zero]
  by_cases h1 : i < args.size
  · rw [if_pos (by omega), if_pos h1]
    have h2 : i < args'.size := by omega
    have := h.2 i h1
    simpa [Array.getD_eq_getD_getElem?, h1, h2, Array.getElem?_append_left h2] using this
  · have h2 : ¬ i < args'.size := by omega
    have e1 : (if i < args.size + (n - args.size) then ((if i < args.size then args.toList[i]? else none).getD undef) else undef) = undef := by rw [if_neg h1]; simp
    rw [e1]
    have e2 : (args' ++ Array.replicate (n - args'.size) undef).getD i undef = undef := by
      rw [Array.getD_eq_getD_getElem?, Array.getElem?_append_right (Nat.le_of_not_lt h2), Array.getElem?_replicate]
      split <;> rfl
    rw [e2]
    exact VRel.undef _

theorem evalF_ok (hN : NamesOk P) (hm : P.follows .mixedOrders = true) (hP : progOk gl P = true) {prim : CallF} (hprim : CallOk P gl prim) : ∀ n, CallOk P gl (evalF P prim n)
  | 0 => by intro f args H v H' h; cases h
  | n + 1 => by
    have ih := evalF_ok hN hm hP hprim n
    intro f args H v H' h
    simp only [evalF] at h
    split at h
    · rename_i r hp
      obtain rfl := Option.some.inj h
      exact hprim f args H v H' hp
    · split at h
      · rename_i fn hf
        split at h
        · rename_i c hb
          have hok : codeOk gl c = true := by
            have := List.all_eq_true.1 hP fn (by simpa using Array.mem_of_getElem? hf)
            simpa [hb] using this
          intro w0 π w args' hR hg ha
          refine calls_of_wp hf hb ?_
          split at h
          · cases h
          · rename_i x fr H1 hx hr
            cases hv : resultsA P fr H1 fn.results.toList with
            | none => rw [hv] at h; cases h
            | some vs =>
              rw [hv] at h
              simp only [Option.map_some, Option.some.injEq, Prod.mk.injEq] at h
              obtain ⟨rfl, rfl⟩ := h
              refine code_run hN hm ih n c _ H x fr H1 hok hr π _ w _ (init_rel ha fn.ntmps) hR hg fun π' a' w' g1 g2 g3 g4 => ?_
              obtain ⟨v', k1, k2⟩ := results_all g2 g3 hv
              cases x with
              | exit id => exact (hx id rfl).elim
              | normal => exact ⟨g4, v', k1, π', v', g1, rfl, k2, g3⟩
              | ret => exact ⟨g4, v', k1, π', v', g1, rfl, k2, g3⟩
          · cases h
        · cases h
      · cases h
end
end Go.Ab
