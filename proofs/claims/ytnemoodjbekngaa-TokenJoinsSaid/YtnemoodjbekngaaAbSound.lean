/-
  Each operation of the abstract machine against the model's. Conditions: those of each law.
-/
import Derived.Test.YtnemoodjbekngaaAbRest
namespace Go.Ab
open Go.RowKit (Below)

/-- What an operation of the model yields. -/
def Yields (r : Result Next) (v : Value) (w : World) : Prop := r = .ok (.value v) w ∨ (r = .ok .skip w ∧ v = undef)

/-- What is asked of a program once: no function bears the name that the model takes for itself. -/
def NamesOk (P : Program) : Prop := ∀ (f : Nat) (fn : Func), P.funcs[f]? = some fn → (fn.name == "runtime.NumGoroutine") = false

section
variable {P : Program} {w0 : World} {π : List Place} {H : Heap} {w : World}

theorem callFunc_run (hN : NamesOk P) {f : FuncId} (hb : hasBody P f = true) (args : Array Value) (w : World) : (callFunc f args).run P w = .ok (.enter f args) w := by
  unfold hasBody at hb
  cases hf : P.funcs[f]? with
  | none => rw [hf] at hb; simp at hb
  | some fn =>
    rw [hf] at hb
    have hn := hN f fn hf
    have hn' : ¬ (fn.name = "runtime.NumGoroutine") := by simpa using hn
    have hbody : ¬ (fn.body = none) := by
      intro hbd
      simp [hbd] at hb
    simp [callFunc, hf, hn', hbody, Result.andThen]

theorem args_rel {ρ ρ' : Operand → Value} {xs : Array Operand} (h : ∀ x ∈ xs.toList, VRel π (ρ x) (ρ' x)) : ARel π (xs.map ρ) (xs.map ρ') := by
  refine ⟨by simp, fun i hi => ?_⟩
  have hi' : i < xs.size := by simpa using hi
  have := h xs[i] (by simp)
  simpa [Array.getD_eq_getD_getElem?, hi'] using this
theorem ARel.append {a a' b b' : Array Value} (h : ARel π a a') (k : ARel π b b') : ARel π (a ++ b) (a' ++ b') := by
  refine ⟨by simp [h.1, k.1], fun i hi => ?_⟩
  simp only [Array.getD_eq_getD_getElem?]
  by_cases hi1 : i < a.size
  · have := h.2 i hi1
    rw [Array.getElem?_append_left hi1, Array.getElem?_append_left (by rw [← h.1]; exact hi1)]
    simpa [Array.getD_eq_getD_getElem?] using this
  · have := k.2 (i - a.size) (by simp at hi; omega)
    rw [Array.getElem?_append_right (by omega), Array.getElem?_append_right (by rw [← h.1]; omega), ← h.1]
    simpa [Array.getD_eq_getD_getElem?] using this
theorem ARel.one {v v' : Value} (h : VRel π v v') : ARel π #[v] #[v'] := ⟨rfl, fun i hi => by
  have hi0 : i = 0 := by simpa using hi
  subst hi0; simpa using h⟩
theorem parts_rel {ρ ρ' : Operand → Value} : ∀ (ps : List (Nat × Operand)), (∀ x ∈ ps.map (·.2), VRel π (ρ x) (ρ' x)) → PRel π (ps.map fun (i, x) => (i, ρ x)) (ps.map fun (i, x) => (i, ρ' x))
  | [], _ => .nil
  | (i, x) :: ps, h => .cons (h x (by simp)) (parts_rel ps fun y hy => h y (by simp at hy ⊢; exact .inr hy))
theorem arg_get {ρ : Operand → Value} {xs : Array Operand} {i : Nat} {x : Operand} (h : xs[i]? = some x) : (xs.map ρ)[i]? = some (ρ x) := by simp [h]
theorem arg_mem {xs : Array Operand} {i : Nat} {x : Operand} (h : xs[i]? = some x) : x ∈ xs.toList := by
  have := Array.mem_of_getElem? h
  simpa using this

theorem tail_args (v : Value) (xs : Array Value) : (#[v] ++ xs).extract 1 (#[v] ++ xs).size = xs := by
  apply Array.ext
  · simp
  · intro i h1 h2
    simp only [Array.getElem_extract]
    rw [Array.getElem_append_right (by simp)]
    simp
theorem head_args (v : Value) (xs : Array Value) : (#[v] ++ xs)[0]? = some v := by
  rw [Array.getElem?_append_left (by simp)]; rfl

/-- **ONE OPERATION.** -/
theorem op_run (hN : NamesOk P) (hR : HRel w0 π H w) {ρ ρ' : Operand → Value} {o : Oper} {r : ARes} (h : evalOp P ρ o H = some r) (hρ : ∀ x ∈ o.op.operands.toList, VRel π (ρ x) (ρ' x)) :
    match r with
    | .val v H' => ∃ π' v' w', PLe π π' ∧ Yields ((execOp ρ' o).run P w) v' w' ∧ VRel π' v v' ∧ HRel w0 π' H' w'
    | .call f args => ∃ args', ARel π args args' ∧ (execOp ρ' o).run P w = .ok (.enter f args') w := by
  have flatCase : ∀ {r : ARes}, evalFlat P ρ o H = some r → (∀ cs b, o.op ≠ .select cs b) → ∃ v, r = .val v H ∧ ∃ π' v' w', PLe π π' ∧ Yields ((execOp ρ' o).run P w) v' w' ∧ VRel π' v v' ∧ HRel w0 π' H w' := by
    intro r hr hno
    obtain ⟨v, h1, h2, h3⟩ := flat_run hr hno hρ w
    exact ⟨v, h1, π, v, w, PLe.refl _, .inl h3, flat_refl π v h2, hR⟩
  have same : ∀ {v v' : Value}, (execOp ρ' o).run P w = .ok (.value v') w → VRel π v v' → ∃ π' v' w', PLe π π' ∧ Yields ((execOp ρ' o).run P w) v' w' ∧ VRel π' v v' ∧ HRel w0 π' H w' :=
    fun {v v'} h1 h2 => ⟨π, v', w, PLe.refl _, .inl h1, h2, hR⟩
  cases hop : o.op
  case move x =>
    simp only [evalOp, hop, Option.some.injEq] at h
    subst h
    exact same (by simp [execOp, hop]) (hρ x (by simp [hop, Op.operands]))
  case assign x =>
    simp only [evalOp, hop, Option.some.injEq] at h
    subst h
    exact same (by simp [execOp, hop]) (hρ x (by simp [hop, Op.operands]))
  case pick c a b =>
    simp only [evalOp, hop] at h
    have hc := hρ c (by simp [hop, Op.operands])
    cases hv : ρ c with
    | bool t =>
      rw [hv] at h hc
      simp only [Option.some.injEq] at h
      subst h
      have hc' : ρ' c = .bool t := by
        generalize ρ' c = z at hc
        cases hc; rfl
      refine same (v' := if t then ρ' a else ρ' b) (by simp [execOp, hop, hc', asBool]) ?_
      cases t
      · exact hρ b (by simp [hop, Op.operands])
      · exact hρ a (by simp [hop, Op.operands])
    | _ => rw [hv] at h; cases h
  case alloc t =>
    simp only [evalOp, hop] at h
    cases hz : zeroOf P t with
    | none => rw [hz] at h; cases h
    | some z =>
      rw [hz] at h
      simp only [Option.map_some, Option.some.injEq] at h
      subst h
      obtain ⟨i, zv, hi, hzz, rfl, hfl⟩ := zeroOf_run hz
      refine ⟨_, .pointer (some ⟨w.heap.size, 0, none⟩), w.alloc (.cells zv.cells t), PLe.push _ _, .inl ?_, newPtr hR zv.cells.size 0, push_row hR 0 (C := zv.cells) (e := t) (fz := (0, 0)) (by simp) (fun j hj => by rw [arr_getD_toList]; exact flatL_refl _ _ hfl j hj) (fun j _ => by omega) rfl rfl rfl rfl⟩
      simp [execOp, hop, Instr.alloc, zeroValue, typeInfo, hi, hzz, newVar, newRow, Result.andThen]
  case box t x =>
    simp only [evalOp, hop, Option.some.injEq] at h
    subst h
    have hx := (hρ x (by simp [hop, Op.operands])).cells
    refine ⟨_, .pointer (some ⟨w.heap.size, 0, none⟩), w.alloc (.cells (ρ' x).cells t), PLe.push _ _, .inl ?_, newPtr hR (ρ' x).cells.size 0, push_row hR 0 (C := (ρ' x).cells) (e := t) (fz := (0, 0)) (by have := hx.1; simpa using Nat.le_of_eq this) (fun j hj => by have := hx.2 j hj; rwa [arr_getD_toList]) (fun j _ => by omega) rfl rfl rfl rfl⟩
    simp [execOp, hop, Instr.box, newVar, newRow, Result.andThen]
  case build t parts =>
    simp only [evalOp, hop] at h
    cases hb : buildA P t (parts.toList.map fun (i, x) => (i, ρ x)) with
    | none => rw [hb] at h; cases h
    | some v =>
      rw [hb] at h
      simp only [Option.map_some, Option.some.injEq] at h
      subst h
      have hp := parts_rel (π := π) (ρ := ρ) (ρ' := ρ') parts.toList (fun x hx => hρ x (by simpa [hop, Op.operands] using hx))
      obtain ⟨v', hr, hv⟩ := build_run (π := π) (ps' := parts.map fun (i, x) => (i, ρ' x)) hb (by simpa using hp) w
      exact same (by simp [execOp, hop, hr, Result.andThen]) hv
  case buildSlice t len parts =>
    simp only [evalOp, hop] at h
    cases hb : buildSliceA P t len (parts.toList.map fun (i, x) => (i, ρ x)) H with
    | none => rw [hb] at h; cases h
    | some vh =>
      obtain ⟨v, H'⟩ := vh
      rw [hb] at h
      simp only [Option.map_some, Option.some.injEq] at h
      subst h
      have hp := parts_rel (π := π) (ρ := ρ) (ρ' := ρ') parts.toList (fun x hx => hρ x (by simpa [hop, Op.operands] using hx))
      obtain ⟨π', v', w', g1, g2, g3, g4⟩ := buildSlice_run hR (ps' := parts.map fun (i, x) => (i, ρ' x)) hb (by simpa using hp)
      exact ⟨π', v', w', g1, .inl (by simp [execOp, hop, g2, Result.andThen]), g3, g4⟩
  case load t a =>
    simp only [evalOp, hop] at h
    cases hl : loadA P t (ρ a) H with
    | none => rw [hl] at h; cases h
    | some v =>
      rw [hl] at h
      simp only [Option.map_some, Option.some.injEq] at h
      subst h
      obtain ⟨v', hr, hv⟩ := load_run hR hl (hρ a (by simp [hop, Op.operands]))
      exact same (by simp [execOp, hop, hr, Result.andThen]) hv
  case store t a x =>
    simp only [evalOp, hop] at h
    cases hl : storeA P t (ρ a) (ρ x) H with
    | none => rw [hl] at h; cases h
    | some H' =>
      rw [hl] at h
      simp only [Option.map_some, Option.some.injEq] at h
      subst h
      obtain ⟨w', hr, hH⟩ := store_run hR hl (hρ a (by simp [hop, Op.operands])) (hρ x (by simp [hop, Op.operands]))
      exact ⟨π, undef, w', PLe.refl _, .inr ⟨by simp [execOp, hop, hr, Result.andThen], rfl⟩, VRel.undef π, hH⟩
  case nilCheck x =>
    simp only [evalOp, hop] at h
    have hx := hρ x (by simp [hop, Op.operands])
    cases hn : nilCheckA (ρ x) with
    | none => rw [hn] at h; cases h
    | some v =>
      rw [hn] at h
      simp only [Option.map_some, Option.some.injEq] at h
      subst h
      unfold nilCheckA at hn
      split at hn
      · rename_i a hv
        obtain rfl := Option.some.inj hn
        rw [hv] at hx
        generalize hv' : ρ' x = y at hx
        cases hx with
        | ptr b o p hp => exact same (by simp [execOp, hop, hv']) (.ptr b o p hp)
      · rename_i f a b hv
        obtain rfl := Option.some.inj hn
        rw [hv] at hx
        generalize hv' : ρ' x = y at hx
        cases hx with
        | func fn f1 f2 c1 c2 h1 h2 h3 h4 => exact same (by simp [execOp, hop, hv']) (.func _ _ _ _ _ h1 h2 h3 h4)
      · rename_i t v hv
        obtain rfl := Option.some.inj hn
        rw [hv] at hx
        generalize hv' : ρ' x = y at hx
        cases hx with
        | iface t v v' h1 => exact same (by simp [execOp, hop, hv']) (.iface t v v' h1)
      · cases hn
  case binOp op t x y yt =>
    simp only [evalOp, hop] at h
    have hx := hρ x (by simp [hop, Op.operands])
    have hy := hρ y (by simp [hop, Op.operands])
    cases hs : strA op (ρ x) (ρ y) with
    | some v =>
      rw [hs] at h
      simp only [Option.some.injEq] at h
      subst h
      obtain ⟨h1, h2⟩ := str_run (P := P) hs t w
      have hs' := hs
      unfold strA at hs'
      split at hs'
      · rename_i a b ha hb
        rw [ha] at hx
        rw [hb] at hy
        have ex : ρ' x = .string a := by generalize ρ' x = z at hx; cases hx; rfl
        have ey : ρ' y = .string b := by generalize ρ' y = z at hy; cases hy; rfl
        rw [ha, hb] at h1
        refine same (v' := v) ?_ (flat_refl π v h2)
        have hg : (eqGuard op t x y (.string a) (.string b)).run P w = .ok () w := by cases op <;> simp [eqGuard]
        simp [execOp, hop, ex, ey, hg, h1, Result.andThen]
      · cases hs'
    | none =>
      rw [hs] at h
      simp only at h
      have viaNil : ∀ b : Bool, eqNil P t (ρ x) (ρ y) = some b → (op = .eql → ∃ π' v' w', PLe π π' ∧ Yields ((execOp ρ' o).run P w) v' w' ∧ VRel π' (.bool b) v' ∧ HRel w0 π' H w') ∧ (op = .neq → ∃ π' v' w', PLe π π' ∧ Yields ((execOp ρ' o).run P w) v' w' ∧ VRel π' (.bool !b) v' ∧ HRel w0 π' H w') := by
        intro b hb
        obtain ⟨h1, h2⟩ := eqNil_run hb hx hy w
        have hg := fun op => eqNil_guard hb hx hy w op x y
        refine ⟨fun e => ?_, fun e => ?_⟩ <;> subst e
        · exact same (by simp [execOp, hop, hg, h1, Result.andThen]) (.bool _)
        · exact same (by simp [execOp, hop, hg, h2, Result.andThen]) (.bool _)
      cases op <;> simp only at h <;> first
        | (obtain ⟨v, rfl, g⟩ := flatCase h (by intro cs b; rw [hop]; simp); exact g)
        | (unfold pureOr at h
           cases hb : eqNil P t (ρ x) (ρ y) with
           | some b =>
             rw [hb] at h
             simp only [Option.map_some, Option.some.injEq] at h
             subst h
             first | exact (viaNil b hb).1 rfl | exact (viaNil b hb).2 rfl
           | none =>
             rw [hb] at h
             obtain ⟨v, rfl, g⟩ := flatCase h (by intro cs b; rw [hop]; simp)
             exact g)
  case unOp op t x =>
    simp only [evalOp, hop] at h
    obtain ⟨v, rfl, g⟩ := flatCase h (by intro cs b; rw [hop]; simp)
    exact g
  case convert src dst x =>
    simp only [evalOp, hop] at h
    unfold orFlat at h
    cases hc : convertA P src dst (ρ x) H with
    | none =>
      rw [hc] at h
      obtain ⟨v, rfl, g⟩ := flatCase h (by intro cs b; rw [hop]; simp)
      exact g
    | some vh =>
      obtain ⟨v, H'⟩ := vh
      rw [hc] at h
      simp only [Option.some.injEq] at h
      subst h
      obtain ⟨π', v', w', g1, g2, g3, g4⟩ := convert_run hR hc (hρ x (by simp [hop, Op.operands]))
      exact ⟨π', v', w', g1, .inl (by simp [execOp, hop, g2, Result.andThen]), g3, g4⟩
  case makeInterface t x =>
    simp only [evalOp, hop] at h
    cases hu : P.underlying t with
    | none => rw [hu] at h; cases h
    | some d =>
      rw [hu] at h
      cases d <;> simp only [Option.some.injEq] at h <;> first
        | (subst h
           exact same (v' := .iface t (ρ' x)) (by simp [execOp, hop, Instr.makeInterface, run_underlying hu, Result.andThen]) (.iface _ _ _ (hρ x (by simp [hop, Op.operands]))))
        | cases h
  case makeFunc fn first captured =>
    simp only [evalOp, hop, Option.some.injEq] at h
    subst h
    have a1 := args_rel (π := π) (ρ := ρ) (ρ' := ρ') (xs := first) (fun x hx => hρ x (by simp [hop, Op.operands]; exact .inl (by simpa using hx)))
    have a2 := args_rel (π := π) (ρ := ρ) (ρ' := ρ') (xs := captured) (fun x hx => hρ x (by simp [hop, Op.operands]; exact .inr (by simpa using hx)))
    exact same (v' := .func fn (first.map ρ') (captured.map ρ')) (by simp [execOp, hop, Instr.makeFunc, Result.andThen]) (.func _ _ _ _ _ a1.1 a2.1 a1.2 a2.2)
  case makeSlice t l c =>
    simp only [evalOp, hop] at h
    cases hm : makeSliceA P t (ρ l) (ρ c) H with
    | none => rw [hm] at h; cases h
    | some vh =>
      obtain ⟨v, H'⟩ := vh
      rw [hm] at h
      simp only [Option.map_some, Option.some.injEq] at h
      subst h
      have hl := hρ l (by simp [hop, Op.operands])
      have hc := hρ c (by simp [hop, Op.operands])
      have el : ρ' l = ρ l := by
        unfold makeSliceA at hm
        split at hm
        · rename_i e kl l' kc c' he h1 h2
          rw [h1] at hl ⊢
          generalize ρ' l = z at hl
          cases hl; rfl
        · cases hm
      have ec : ρ' c = ρ c := by
        unfold makeSliceA at hm
        split at hm
        · rename_i e kl l' kc c' he h1 h2
          rw [h2] at hc ⊢
          generalize ρ' c = z at hc
          cases hc; rfl
        · cases hm
      obtain ⟨π', v', w', g1, g2, g3, g4⟩ := makeSlice_run hR hm
      exact ⟨π', v', w', g1, .inl (by simp [execOp, hop, el, ec, g2, Result.andThen]), g3, g4⟩
  case slice t x lo hi mx =>
    simp only [evalOp, hop] at h
    have hx := hρ x (by simp [hop, Op.operands])
    have opt : ∀ (y : Option Operand), (∀ z, y = some z → z ∈ o.op.operands.toList) → (∀ z, y = some z → ∀ k n, ρ z = .int k n → ρ' z = .int k n) := by
      intro y hy z hz k n hv
      have := hρ z (hy z hz)
      rw [hv] at this
      generalize ρ' z = u at this
      cases this; rfl
    have olo := opt lo (fun z hz => by subst hz; simp [hop, Op.operands])
    have ohi := opt hi (fun z hz => by subst hz; simp [hop, Op.operands])
    have omx := opt mx (fun z hz => by subst hz; simp [hop, Op.operands])
    -- the bounds are the same in the model
    have same_bound : ∀ (y : Option Operand), (∀ z, y = some z → ∀ k n, ρ z = .int k n → ρ' z = .int k n) → (∀ z, y = some z → ∃ k n, ρ z = .int k n) → y.map ρ' = y.map ρ := by
      intro y h1 h2
      cases y with
      | none => rfl
      | some z =>
        obtain ⟨k, n, hv⟩ := h2 z rfl
        simp [hv, h1 z rfl k n hv]
    have bnd : ∀ (v : Value) (y n : Nat), boundA v y = some n → ∃ k m, v = .int k m := by
      intro v y n hb
      unfold boundA at hb
      split at hb
      · exact ⟨_, _, rfl⟩
      · cases hb
    have bnds : ∀ (len cap : Nat) (r : Nat × Nat × Nat), boundsA len cap (lo.map ρ) (hi.map ρ) (mx.map ρ) = some r → lo.map ρ' = lo.map ρ ∧ hi.map ρ' = hi.map ρ ∧ mx.map ρ' = mx.map ρ := by
      intro len cap r hb
      have three : (∀ z, lo = some z → ∃ k n, ρ z = .int k n) ∧ (∀ z, hi = some z → ∃ k n, ρ z = .int k n) ∧ (∀ z, mx = some z → ∃ k n, ρ z = .int k n) := by
        unfold boundsA at hb
        refine ⟨?_, ?_, ?_⟩
        · intro z hz
          subst hz
          simp only [Option.map_some] at hb
          split at hb
          · cases hb
          · split at hb
            · cases hb
            · split at hb
              · cases hb
              · rename_i l hl
                exact bnd _ _ _ hl
        · intro z hz
          subst hz
          simp only [Option.map_some] at hb
          split at hb
          · cases hb
          · split at hb
            · cases hb
            · rename_i l hl
              exact bnd _ _ _ hl
        · intro z hz
          subst hz
          simp only [Option.map_some] at hb
          split at hb
          · cases hb
          · rename_i l hl
            exact bnd _ _ _ hl
      exact ⟨same_bound lo olo three.1, same_bound hi ohi three.2.1, same_bound mx omx three.2.2⟩
    cases hs : strSliceA P t (ρ x) (lo.map ρ) (hi.map ρ) (mx.map ρ) with
    | some v =>
      rw [hs] at h
      simp only [Option.some.injEq] at h
      subst h
      obtain ⟨h1, h2⟩ := strSlice_run hs w
      have hs' := hs
      unfold strSliceA at hs'
      split at hs'
      · rename_i s hu hv hm
        split at hs'
        · rename_i l hh m hb
          rw [← hm] at hb
          obtain ⟨e1, e2, e3⟩ := bnds _ _ _ hb
          rw [hv] at hx
          have ex : ρ' x = .string s := by generalize ρ' x = z at hx; cases hx; rfl
          rw [hv] at h1
          exact same (v' := v) (by simp [execOp, hop, ex, e1, e2, e3, h1, Result.andThen]) (flat_refl π v h2)
        · cases hs'
      · cases hs'
    | none =>
      rw [hs] at h
      simp only at h
      cases hsl : sliceA P t (ρ x) (lo.map ρ) (hi.map ρ) (mx.map ρ) H with
      | none => rw [hsl] at h; cases h
      | some v =>
        rw [hsl] at h
        simp only [Option.map_some, Option.some.injEq] at h
        subst h
        have eqs : lo.map ρ' = lo.map ρ ∧ hi.map ρ' = hi.map ρ ∧ mx.map ρ' = mx.map ρ := by
          have hsl' := hsl
          unfold sliceA at hsl'
          split at hsl'
          · split at hsl'
            · rename_i hb; exact bnds _ _ _ hb
            · cases hsl'
          · split at hsl'
            · rename_i hb; exact bnds _ _ _ hb
            · cases hsl'
          · split at hsl'
            · rename_i hb; exact bnds _ _ _ hb
            · cases hsl'
          · cases hsl'
        obtain ⟨v', h1, h2⟩ := slice_run hR hsl hx
        exact same (by simp [execOp, hop, eqs.1, eqs.2.1, eqs.2.2, h1, Result.andThen]) h2
  case fieldAddr s x f =>
    simp only [evalOp, hop] at h
    cases hl : fieldAddrA P s (ρ x) f with
    | none => rw [hl] at h; cases h
    | some v =>
      rw [hl] at h
      simp only [Option.map_some, Option.some.injEq] at h
      subst h
      obtain ⟨v', hr, hv⟩ := fieldAddr_run hl (hρ x (by simp [hop, Op.operands])) w
      exact same (by simp [execOp, hop, hr, Result.andThen]) hv
  case field t x f =>
    simp only [evalOp, hop] at h
    cases hl : fieldA P t (ρ x) f with
    | none => rw [hl] at h; cases h
    | some v =>
      rw [hl] at h
      simp only [Option.map_some, Option.some.injEq] at h
      subst h
      obtain ⟨v', hr, hv⟩ := field_run hl (hρ x (by simp [hop, Op.operands])) w
      exact same (by simp [execOp, hop, hr, Result.andThen]) hv
  case indexAddr t x i =>
    simp only [evalOp, hop] at h
    cases hl : indexAddrA P t (ρ x) (ρ i) with
    | none => rw [hl] at h; cases h
    | some v =>
      rw [hl] at h
      simp only [Option.map_some, Option.some.injEq] at h
      subst h
      obtain ⟨v', hr, hv⟩ := indexAddr_run hl (hρ x (by simp [hop, Op.operands])) w
      have hi := hρ i (by simp [hop, Op.operands])
      have ei : ρ' i = ρ i := by
        unfold indexAddrA at hl
        split at hl
        · rename_i k n he
          rw [he] at hi ⊢
          generalize ρ' i = z at hi
          cases hi; rfl
        · cases hl
      exact same (by simp [execOp, hop, ei, hr, Result.andThen]) hv
  case index t x i =>
    simp only [evalOp, hop] at h
    have hx := hρ x (by simp [hop, Op.operands])
    have hi := hρ i (by simp [hop, Op.operands])
    cases hs : strIndexA P t (ρ x) (ρ i) with
    | some v =>
      rw [hs] at h
      simp only [Option.some.injEq] at h
      subst h
      obtain ⟨h1, h2⟩ := strIndex_run hs w
      have hs' := hs
      unfold strIndexA at hs'
      split at hs'
      · rename_i k n s he hu hv
        rw [he] at hi h1
        rw [hv] at hx h1
        have ei : ρ' i = .int k n := by generalize ρ' i = z at hi; cases hi; rfl
        have ex : ρ' x = .string s := by generalize ρ' x = z at hx; cases hx; rfl
        exact same (v' := v) (by simp [execOp, hop, ei, ex, h1, Result.andThen]) (flat_refl π v h2)
      · cases hs'
    | none =>
      rw [hs] at h
      simp only at h
      cases hl : indexA P t (ρ x) (ρ i) with
      | none => rw [hl] at h; cases h
      | some v =>
        rw [hl] at h
        simp only [Option.map_some, Option.some.injEq] at h
        subst h
        obtain ⟨v', hr, hv⟩ := index_run hl hx w
        have ei : ρ' i = ρ i := by
          unfold indexA at hl
          split at hl
          · rename_i k n len e cs he hu hv'
            rw [he] at hi ⊢
            generalize ρ' i = z at hi
            cases hi; rfl
          · cases hl
        exact same (by simp [execOp, hop, ei, hr, Result.andThen]) hv
  case typeAssert x xt t ok =>
    simp only [evalOp, hop] at h
    unfold pureOr at h
    cases hl : assertA P (ρ x) t ok with
    | none =>
      rw [hl] at h
      obtain ⟨v, rfl, g⟩ := flatCase h (by intro cs b; rw [hop]; simp)
      exact g
    | some v =>
      rw [hl] at h
      simp only [Option.some.injEq] at h
      subst h
      obtain ⟨v', hr, hv⟩ := assert_run hl (hρ x (by simp [hop, Op.operands])) xt w
      exact same (by simp [execOp, hop, hr, Result.andThen]) hv
  case extract t i =>
    simp only [evalOp, hop] at h
    have hx := hρ t (by simp [hop, Op.operands])
    cases hv : ρ t with
    | tuple vs =>
      rw [hv] at h hx
      simp only at h
      cases hg : vs[i]? with
      | none => rw [hg] at h; cases h
      | some v =>
        rw [hg] at h
        simp only [Option.map_some, Option.some.injEq] at h
        subst h
        generalize hv' : ρ' t = y at hx
        cases hx with
        | tuple xs ys h1 h2 =>
          have hi : i < vs.size := by
            rcases Nat.lt_or_ge i vs.size with h' | h'
            · exact h'
            · rw [Array.getElem?_eq_none h'] at hg; cases hg
          have hi' : i < ys.size := by rw [← h1]; exact hi
          have := h2 i hi
          rw [Array.getD_eq_getD_getElem?, Array.getD_eq_getD_getElem?, hg, Array.getElem?_eq_getElem hi'] at this
          exact same (v' := ys[i]) (by simp [execOp, hop, hv', Instr.extract, hi']) this
    | _ => rw [hv] at h; cases h
  case call c =>
    simp only [evalOp, hop] at h
    have hno : ∀ cs b, o.op ≠ .select cs b := by intro cs b; rw [hop]; simp
    have hargs : ∀ x ∈ c.args.toList, VRel π (ρ x) (ρ' x) := fun x hx => hρ x (by
      have : x ∈ c.args := by simpa using hx
      cases hc : c.callee <;> simp [hop, Op.operands, Call.operands, hc, this])
    cases hc : c.callee with
    | value f =>
      rw [hc] at h
      simp only at h
      have hf := hρ f (by simp [hop, Op.operands, Call.operands, hc])
      cases hv : ρ f with
      | func fn first captured =>
        cases fn with
        | func g =>
          rw [hv] at h hf
          simp only at h
          cases hb : hasBody P g with
          | false =>
            rw [hb] at h
            obtain ⟨v, rfl, gg⟩ := flatCase h hno
            exact gg
          | true =>
            rw [hb] at h
            simp only [cond_true, Option.some.injEq] at h
            subst h
            generalize hv' : ρ' f = y at hf
            cases hf with
            | func fn f1 f2 c1 c2 h1 h2 h3 h4 =>
              refine ⟨f2 ++ c.args.map ρ' ++ c2, ARel.append (ARel.append ⟨h1, h3⟩ (args_rel hargs)) ⟨h2, h4⟩, ?_⟩
              simp only [execOp, hop, resolve, hc, hv', Deferred.ofValue, Sem.run_bind, Sem.run_pure, Result.andThen, invoke]
              exact callFunc_run hN hb _ w
        | _ => rw [hv] at h; cases h
      | _ => rw [hv] at h; cases h
    | invoke recv name =>
      rw [hc] at h
      simp only at h
      have hf := hρ recv (by simp [hop, Op.operands, Call.operands, hc])
      cases hv : ρ recv with
      | iface t v =>
        rw [hv] at h hf
        simp only at h
        cases hm : methodA P t name with
        | none => rw [hm] at h; cases h
        | some f =>
          rw [hm] at h
          simp only at h
          cases hb : hasBody P f with
          | false => rw [hb] at h; cases h
          | true =>
            rw [hb] at h
            simp only [cond_true, Option.some.injEq] at h
            subst h
            generalize hv' : ρ' recv = y at hf
            cases hf with
            | iface t v v' h1 =>
              refine ⟨#[v'] ++ c.args.map ρ', ARel.append (ARel.one h1) (args_rel hargs), ?_⟩
              have hmr := method_run hm v' (P.types.size + Made.depth - 1) w
              have hd : P.types.size + Made.depth - 1 + 1 = P.types.size + Made.depth := by have : Made.depth = 100 := rfl; omega
              rw [hd] at hmr
              simp only [execOp, hop, resolve, hc, hv', Sem.run_bind, Sem.run_pure, Result.andThen, invoke]
              have h0 := head_args (.iface t v') (c.args.map ρ')
              have h1 := tail_args (.iface t v') (c.args.map ρ')
              simp only [h0, h1, callMethod, Sem.run_bind, run_program, Result.andThen, hmr]
              exact callFunc_run hN hb _ w
      | _ => rw [hv] at h; cases h
    | builtin b =>
      rw [hc] at h
      cases b <;> simp only at h <;> first
        | (obtain ⟨v, rfl, g⟩ := flatCase h hno; exact g)
        | skip
      case append =>
        cases h0 : c.args[0]? with
        | none => rw [h0] at h; cases h
        | some s =>
          cases h1 : c.args[1]? with
          | none => rw [h0, h1] at h; cases h
          | some x =>
            rw [h0, h1] at h
            simp only at h
            cases ha : appendA P c.argTypes (ρ s) (ρ x) H with
            | none => rw [ha] at h; cases h
            | some vh =>
              obtain ⟨v, H'⟩ := vh
              rw [ha] at h
              simp only [Option.map_some, Option.some.injEq] at h
              subst h
              obtain ⟨π', v', w', g1, g2, g3, g4⟩ := append_run hR (ty := o.type) (args := c.args.map ρ') ha (hargs s (arg_mem h0)) (hargs x (arg_mem h1)) (arg_get h0) (arg_get h1)
              exact ⟨π', v', w', g1, .inl (by simp [execOp, hop, resolve, hc, invoke, builtin, g2, Result.andThen]), g3, g4⟩
      case copy =>
        cases h0 : c.args[0]? with
        | none => rw [h0] at h; cases h
        | some s =>
          cases h1 : c.args[1]? with
          | none => rw [h0, h1] at h; cases h
          | some x =>
            rw [h0, h1] at h
            simp only at h
            cases ha : copyA P c.argTypes (ρ s) (ρ x) H with
            | none => rw [ha] at h; cases h
            | some vh =>
              obtain ⟨v, H'⟩ := vh
              rw [ha] at h
              simp only [Option.map_some, Option.some.injEq] at h
              subst h
              obtain ⟨v', w', g2, g3, g4⟩ := copy_run hR (ty := o.type) (args := c.args.map ρ') ha (hargs s (arg_mem h0)) (hargs x (arg_mem h1)) (arg_get h0) (arg_get h1)
              exact ⟨π, v', w', PLe.refl _, .inl (by simp [execOp, hop, resolve, hc, invoke, builtin, g2, Result.andThen]), g3, g4⟩
      case clear =>
        cases h0 : c.args[0]? with
        | none => rw [h0] at h; cases h
        | some s =>
          rw [h0] at h
          simp only at h
          cases ha : clearA P c.argTypes (ρ s) H with
          | none => rw [ha] at h; cases h
          | some vh =>
            obtain ⟨v, H'⟩ := vh
            rw [ha] at h
            simp only [Option.map_some, Option.some.injEq] at h
            subst h
            obtain ⟨v', w', g2, g3, g4⟩ := clear_run hR (ty := o.type) (args := c.args.map ρ') ha (hargs s (arg_mem h0)) (arg_get h0)
            exact ⟨π, v', w', PLe.refl _, .inl (by simp [execOp, hop, resolve, hc, invoke, builtin, g2, Result.andThen]), g3, g4⟩
      case len =>
        cases h0 : c.args[0]? with
        | none => rw [h0] at h; cases h
        | some s =>
          rw [h0] at h
          simp only at h
          cases ha : lenA P c.argTypes (ρ s) H with
          | none => rw [ha] at h; cases h
          | some v =>
            rw [ha] at h
            simp only [Option.map_some, Option.some.injEq] at h
            subst h
            obtain ⟨g2, g3⟩ := len_run hR (ty := o.type) (args := c.args.map ρ') ha (hargs s (arg_mem h0)) (arg_get h0)
            exact same (by simp [execOp, hop, resolve, hc, invoke, builtin, g2, Result.andThen]) (flat_refl π v g3)
  all_goals (simp only [evalOp, hop] at h; cases h)
end
end Go.Ab
