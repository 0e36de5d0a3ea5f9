/-
  The abstract machine's runs against the model's: regions in the order of the text, code, loops, calls. Conditions: those of each law.
-/
import Derived.Test.YtnemoodjbekngaaAbSound
namespace Go.Ab
open Go.RowKit (Below)

structure FrRel (π : List Place) (fr : Fr) (tmps : Array Value) : Prop where
  size : fr.n = tmps.size
  get : ∀ i, VRel π (fr.get i) (tmps.getD i undef)

theorem FrRel.mono {π π' : List Place} (hp : PLe π π') {fr : Fr} {tmps : Array Value} (h : FrRel π fr tmps) : FrRel π' fr tmps := ⟨h.size, fun i => (h.get i).mono hp⟩
theorem FrRel.put {π : List Place} {fr : Fr} {a : Act} (h : FrRel π fr a.tmps) (dst : Option Tmp) {v v' : Value} (hv : VRel π v v') : FrRel π (fr.put dst v) (a.put dst v').tmps := by
  cases dst with
  | none => exact h
  | some d =>
    refine ⟨by simp [Fr.put, Fr.n_set, Act.put, h.size], fun i => ?_⟩
    simp only [Fr.put, Act.put, Fr.get_set]
    by_cases hc : i = d ∧ d < fr.n
    · obtain ⟨rfl, hd⟩ := hc
      have hd' : i < a.tmps.size := by rw [← h.size]; exact hd
      rw [if_pos ⟨rfl, hd⟩]
      simpa [Array.getD_eq_getD_getElem?, Array.getElem?_setIfInBounds, hd'] using hv
    · rw [if_neg hc]
      have := h.get i
      by_cases hid : i = d
      · subst hid
        have hd' : ¬ i < a.tmps.size := by rw [← h.size]; exact fun hh => hc ⟨rfl, hh⟩
        simpa [Array.getD_eq_getD_getElem?, Array.getElem?_setIfInBounds, hd'] using this
      · simpa [Array.getD_eq_getD_getElem?, Array.getElem?_setIfInBounds, Ne.symm hid] using this
theorem Act.put_defers (a : Act) (dst : Option Tmp) (v : Value) : (a.put dst v).defers = a.defers := by cases dst <;> rfl

/-- The package's variables lie in the first blocks. -/
def Globs (gl : Nat) (π : List Place) : Prop := ∀ g, g < gl → ∃ p, π[g]? = some p ∧ p.B = g ∧ p.d = 0
theorem Globs.mono {gl : Nat} {π π' : List Place} (h : Globs gl π) (hp : PLe π π') : Globs gl π' := fun g hg => let ⟨p, h1, h2⟩ := h g hg; ⟨p, hp _ _ h1, h2⟩

def opdOk (gl : Nat) : Operand → Bool
  | .tmp _ => true
  | .const v => flat v
  | .global g => Nat.blt g gl
  | .func _ => true
def operOk (gl : Nat) (o : Oper) : Bool := o.op.operands.toList.all (opdOk gl)
theorem opd_rel {gl : Nat} {π : List Place} {fr : Fr} {a : Act} (h : FrRel π fr a.tmps) (hg : Globs gl π) {x : Operand} (hx : opdOk gl x = true) : VRel π (fr.eval x) (a.eval x) := by
  cases x with
  | tmp t => exact h.get t
  | const v => exact flat_refl π v hx
  | global g =>
    obtain ⟨p, h1, h2, h3⟩ := hg g (by simpa [opdOk, Nat.blt_eq] using hx)
    have := VRel.ptr g 0 p h1
    rw [h2, h3] at this
    exact this
  | func f => exact .func _ _ _ _ _ rfl rfl (fun i hi => by simp at hi) (fun i hi => by simp at hi)
theorem opds_rel {gl : Nat} {π : List Place} {fr : Fr} {a : Act} (h : FrRel π fr a.tmps) (hg : Globs gl π) {o : Oper} (ho : operOk gl o = true) : ∀ x ∈ o.op.operands.toList, VRel π (fr.eval x) (a.eval x) :=
  fun x hx => opd_rel h hg (List.all_eq_true.1 ho x hx)

/-- A call of the abstract machine against one of the model. -/
def SimCall (P : Program) (gl : Nat) (f : FuncId) (args : Array Value) (H : Heap) (v : Value) (H' : Heap) : Prop :=
  ∀ (w0 : World) (π : List Place) (w : World) (args' : Array Value), HRel w0 π H w → Globs gl π → ARel π args args' →
    Calls P f args' w (fun e w' => ∃ π' v', PLe π π' ∧ e = .returned v' ∧ VRel π' v v' ∧ HRel w0 π' H' w')
def CallOk (P : Program) (gl : Nat) (call : CallF) : Prop := ∀ f args H v H', call f args H = some (v, H') → SimCall P gl f args H v H'

theorem bool_rel {π : List Place} {v v' : Value} (h : VRel π v v') (b : Bool) : v = .bool b ↔ v' = .bool b := by
  constructor
  · intro e; subst e; cases h; rfl
  · intro e; subst e; cases h; rfl
theorem yielded_rel {π : List Place} {fr : Fr} {tmps : Array Value} (h : FrRel π fr tmps) (ops : Array Oper) : yieldedA ops fr = yielded ops tmps := by
  funext j
  unfold yieldedA yielded
  cases hd : (ops[j]?).bind (·.dst) with
  | none => rfl
  | some t =>
    simp only [Option.bind_some]
    have hv := h.get t
    have hb := bool_rel hv
    by_cases ht : t < tmps.size
    · have e : tmps.getD t undef = tmps[t] := by simp [Array.getD_eq_getD_getElem?, ht]
      rw [e] at hb
      rw [Array.getElem?_eq_getElem ht]
      cases hf : fr.get t with
      | bool b => rw [(hb b).1 hf]
      | _ =>
        cases ht' : tmps[t] with
        | bool b => have := (hb b).2 ht'; rw [hf] at this; cases this
        | _ => rfl
    · have e : fr.get t = undef := by rw [Fr.get_def, if_neg (by rw [h.size]; exact ht)]
      rw [e, Array.getElem?_eq_none (Nat.le_of_not_lt ht)]
      rfl

section
variable {P : Program} {gl : Nat} {w0 : World} {call : CallF}

/-- One operation of a region, with what follows. -/
theorem step_run (hN : NamesOk P) (hC : CallOk P gl call) {π : List Place} {fr : Fr} {H H' : Heap} {a : Act} {w : World} {o : Oper} {v : Value} (h : stepOp P call fr o H = some (v, H'))
    (hF : FrRel π fr a.tmps) (hR : HRel w0 π H w) (hg : Globs gl π) (ho : operOk gl o = true) {K : Act → World → Prop} {Q : Exit → Act → World → Prop}
    (hK : ∀ π' v' w', PLe π π' → VRel π' v v' → HRel w0 π' H' w' → K (a.put o.dst v') w') : o.wp P a w K Q := by
  unfold stepOp at h
  cases he : evalOp P fr.eval o H with
  | none => rw [he] at h; cases h
  | some r =>
    rw [he] at h
    have hrun := op_run hN hR he (opds_rel hF hg ho)
    cases r with
    | val v1 H1 =>
      simp only [Option.some.injEq, Prod.mk.injEq] at h
      obtain ⟨rfl, rfl⟩ := h
      obtain ⟨π', v', w', g1, g2, g3, g4⟩ := hrun
      unfold Oper.wp
      rcases g2 with g2 | ⟨g2, rfl⟩
      · rw [g2]; exact hK π' v' w' g1 g3 g4
      · rw [g2]; exact hK π' undef w' g1 g3 g4
    | call f args =>
      simp only at h
      obtain ⟨args', g1, g2⟩ := hrun
      unfold Oper.wp
      rw [g2]
      refine (hC f args H v H' h w0 π w args' hR hg g1).mono ?_
      rintro e w' ⟨π', v', k1, rfl, k2, k3⟩
      exact hK π' v' w' k1 k2 k3

theorem ops_run (hN : NamesOk P) (hC : CallOk P gl call) {ops : Array Oper} {Q : Exit → Act → World → Prop} {fr' : Fr} {H' : Heap} : ∀ (l : List Oper) (k : Nat) (fr : Fr) (H : Heap) (a : Act) (w : World) (π : List Place),
    (∀ j, l[j]? = ops[k + j]?) → runOps P call ops l fr H = some (fr', H') → FrRel π fr a.tmps → HRel w0 π H w → Globs gl π → (∀ o ∈ l, operOk gl o = true) →
    (∀ π' a' w', PLe π π' → FrRel π' fr' a'.tmps → HRel w0 π' H' w' → a'.defers = a.defers → Q .normal a' w') → wpOps P ops Q (List.range' k l.length) a w
  | [], k, fr, H, a, w, π, _, h, hF, hR, _, _, hQ => by
    simp only [runOps, Option.some.injEq, Prod.mk.injEq] at h
    obtain ⟨rfl, rfl⟩ := h
    simp only [List.length_nil, List.range'_zero, wpOps]
    exact hQ π a w (PLe.refl _) hF hR rfl
  | o :: l, k, fr, H, a, w, π, hl, h, hF, hR, hg, ho, hQ => by
    have h0 : ops[k]? = some o := by simpa using (hl 0).symm
    have hl' : ∀ j, l[j]? = ops[k + 1 + j]? := fun j => by have := hl (j + 1); simpa [Nat.add_assoc, Nat.add_comm 1 j] using this
    simp only [List.length_cons, List.range'_succ, wpOps, h0]
    simp only [runOps] at h
    rw [← yielded_rel hF]
    cases hw : Region.wanted o (yieldedA ops fr) with
    | true =>
      rw [hw] at h
      simp only [cond_true] at h
      cases hs : stepOp P call fr o H with
      | none => rw [hs] at h; cases h
      | some vh =>
        obtain ⟨v, H1⟩ := vh
        rw [hs] at h
        simp only at h
        rw [if_pos rfl]
        refine .inl (step_run hN hC hs hF hR hg (ho o (by simp)) (fun π' v' w' g1 g2 g3 => ?_))
        refine ops_run hN hC l (k + 1) _ _ _ _ π' hl' h ((hF.mono g1).put o.dst g2) g3 (hg.mono g1) (fun o' ho' => ho o' (by simp [ho'])) (fun π2 a2 w2 k1 k2 k3 k4 => hQ π2 a2 w2 (g1.trans k1) k2 k3 (by rw [k4, Act.put_defers]))
    | false =>
      rw [hw] at h
      simp only [cond_false] at h
      rw [if_neg (by simp)]
      exact ops_run hN hC l (k + 1) _ _ _ _ π hl' h (hF.put o.dst (VRel.undef π)) hR hg (fun o' ho' => ho o' (by simp [ho'])) (fun π2 a2 w2 k1 k2 k3 k4 => hQ π2 a2 w2 k1 k2 k3 (by rw [k4, Act.put_defers]))
end
end Go.Ab
