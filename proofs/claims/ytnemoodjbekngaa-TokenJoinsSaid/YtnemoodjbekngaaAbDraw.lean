/-
  A region that draws its order, run by the abstract machine in the order of the text: it comes to the same in every order of the model. Conditions: those of each law.
-/
import Derived.Test.YtnemoodjbekngaaAbCode
namespace Go.Ab
open Go.RowKit (Below)

mutual
theorem valEq_eq : ∀ a b : Value, valEq a b = true → a = b
  | .bool a, b, h => by cases b <;> simp_all [valEq]
  | .int j a, b, h => by cases b <;> simp_all [valEq]
  | .float j a, b, h => by cases b <;> simp_all [valEq]
  | .complex .., b, h => by cases b <;> simp_all [valEq]
  | .string a, b, h => by
    cases b <;> simp_all [valEq]
    rename_i b
    rw [eqL_eq] at h
    have h : a.data.toList = b.data.toList := by simpa using h
    cases a with | mk a => cases b with | mk b => congr 1; exact Array.ext' h
  | .pointer a, b, h => by cases b <;> simp_all [valEq]
  | .slice a l c, b, h => by cases b <;> simp_all [valEq]
  | .map a, b, h => by cases b <;> simp_all [valEq]
  | .chan .., b, h => by cases b <;> simp_all [valEq]
  | .nilFunc, b, h => by cases b <;> simp_all [valEq]
  | .nilIface, b, h => by cases b <;> simp_all [valEq]
  | .func f ⟨a⟩ ⟨b⟩, x, h => by
    cases x with
    | func g c d =>
      cases c with | mk c => cases d with | mk d =>
      simp only [valEq, Bool.and_eq_true, decide_eq_true_eq] at h
      rw [h.1.1, valEqL_eq a c h.1.2, valEqL_eq b d h.2]
    | _ => simp [valEq] at h
  | .iface t v, x, h => by
    cases x with
    | iface u w =>
      simp only [valEq, Bool.and_eq_true] at h
      rw [Nat.eq_of_beq_eq_true h.1, valEq_eq v w h.2]
    | _ => simp [valEq] at h
  | .agg ⟨a⟩, x, h => by
    cases x with
    | agg c => cases c with | mk c => simp only [valEq] at h; rw [valEqL_eq a c h]
    | _ => simp [valEq] at h
  | .tuple ⟨a⟩, x, h => by
    cases x with
    | tuple c => cases c with | mk c => simp only [valEq] at h; rw [valEqL_eq a c h]
    | _ => simp [valEq] at h
theorem valEqL_eq : ∀ a b : List Value, valEqL a b = true → a = b
  | [], b, h => by cases b <;> simp_all [valEqL]
  | x :: a, b, h => by
    cases b with
    | nil => simp [valEqL] at h
    | cons y b =>
      simp only [valEqL, Bool.and_eq_true] at h
      rw [valEq_eq x y h.1, valEqL_eq a b h.2]
end

theorem evalFlat_congr {P : Program} {ρ ρ' : Operand → Value} {o : Oper} (hs : ∀ cs b, o.op ≠ .select cs b) (h : ∀ x ∈ o.op.operands.toList, ρ x = ρ' x) (H : Heap) : evalFlat P ρ o H = evalFlat P ρ' o H := by
  unfold evalFlat
  rw [execOp_congr o hs (fun x hx => h x (by simpa using hx))]
  have : (o.op.operands.toList.all fun x => flat (ρ x)) = (o.op.operands.toList.all fun x => flat (ρ' x)) := by
    rw [Bool.eq_iff_iff, List.all_eq_true, List.all_eq_true]
    exact ⟨fun k x hx => by rw [← h x hx]; exact k x hx, fun k x hx => by rw [h x hx]; exact k x hx⟩
  rw [this]

theorem map_congr {ρ ρ' : Operand → Value} {xs : Array Operand} (h : ∀ x ∈ xs.toList, ρ x = ρ' x) : xs.map ρ = xs.map ρ' := Array.map_congr_left fun x hx => h x (by simpa using hx)
theorem omap_congr {ρ ρ' : Operand → Value} {x : Option Operand} (h : ∀ y, x = some y → ρ y = ρ' y) : x.map ρ = x.map ρ' := by cases x with | none => rfl | some y => simp [h y rfl]
theorem pmap_congr {ρ ρ' : Operand → Value} {ps : List (Nat × Operand)} (h : ∀ x ∈ ps.map (·.2), ρ x = ρ' x) : (ps.map fun (i, x) => (i, ρ x)) = (ps.map fun (i, x) => (i, ρ' x)) :=
  List.map_congr_left fun p hp => by
    obtain ⟨i, x⟩ := p
    simp only [h x (List.mem_map.2 ⟨(i, x), hp, rfl⟩)]

theorem evalOp_congr {P : Program} {ρ ρ' : Operand → Value} {o : Oper} (h : ∀ x ∈ o.op.operands.toList, ρ x = ρ' x) (H : Heap) : evalOp P ρ o H = evalOp P ρ' o H := by
  have hfl : (∀ cs b, o.op ≠ .select cs b) → evalFlat P ρ o H = evalFlat P ρ' o H := fun hs => evalFlat_congr hs h H
  cases hop : o.op <;> rw [hop] at h <;> simp only [Op.operands] at h <;> simp only [evalOp, hop]
  case move x => rw [h x (by simp)]
  case assign x => rw [h x (by simp)]
  case pick c a b => rw [h c (by simp), h a (by simp), h b (by simp)]
  case box t x => rw [h x (by simp)]
  case build t ps => rw [pmap_congr (fun x hx => h x (by simpa using hx))]
  case buildSlice t n ps => rw [pmap_congr (fun x hx => h x (by simpa using hx))]
  case load t a => rw [h a (by simp)]
  case store t a x => rw [h a (by simp), h x (by simp)]
  case nilCheck x => rw [h x (by simp)]
  case binOp op t x y yt => rw [h x (by simp), h y (by simp)]; cases op <;> simp only [pureOr, hfl (by intro cs b; rw [hop]; simp)]
  case unOp op t x => exact hfl (by intro cs b; rw [hop]; simp)
  case convert s d x => rw [h x (by simp)]; simp only [orFlat, hfl (by intro cs b; rw [hop]; simp)]
  case makeInterface t x => rw [h x (by simp)]
  case makeFunc fn f c => rw [map_congr (fun x hx => h x (by simp; exact .inl (by simpa using hx))), map_congr (xs := c) (fun x hx => h x (by simp; exact .inr (by simpa using hx)))]
  case makeSlice t l c => rw [h l (by simp), h c (by simp)]
  case slice t x lo hi mx =>
    rw [h x (by simp), omap_congr (fun y hy => h y (by subst hy; simp)), omap_congr (x := hi) (fun y hy => h y (by subst hy; simp)), omap_congr (x := mx) (fun y hy => h y (by subst hy; simp))]
  case fieldAddr s x f => rw [h x (by simp)]
  case field t x f => rw [h x (by simp)]
  case indexAddr t x i => rw [h x (by simp), h i (by simp)]
  case index t x i => rw [h x (by simp), h i (by simp)]
  case typeAssert x xt t ok => rw [h x (by simp)]; simp only [pureOr, hfl (by intro cs b; rw [hop]; simp)]
  case extract t i => rw [h t (by simp)]
  case call c =>
    have hfl := hfl (by intro cs b; rw [hop]; simp)
    have hargs : ∀ x ∈ c.args.toList, ρ x = ρ' x := fun x hx => h x (by
      have : x ∈ c.args := by simpa using hx
      cases hc : c.callee <;> simp [Call.operands, hc, this])
    have hm := map_congr hargs
    cases hc : c.callee with
    | value f =>
      simp only
      rw [h f (by simp [Call.operands, hc]), hm, hfl]
    | invoke r n =>
      simp only
      rw [h r (by simp [Call.operands, hc]), hm]
    | builtin b =>
      cases b <;> simp only <;> first
        | exact hfl
        | (cases h0 : c.args[0]? with
           | none => rfl
           | some s =>
             cases h1 : c.args[1]? with
             | none => rfl
             | some x => simp only; rw [hargs s (arg_mem h0), hargs x (arg_mem h1)])
        | (cases h0 : c.args[0]? with
           | none => rfl
           | some s => simp only; rw [hargs s (arg_mem h0)])

/-- Who leaves memory alone. -/
theorem quiet_heap {P : Program} {ρ : Operand → Value} {o : Oper} {H : Heap} {r : ARes} (h : evalOp P ρ o H = some r) (hc : classOf P o.op ≠ .effect) : ∃ v, r = .val v H := by
  have fl : ∀ {r : ARes}, evalFlat P ρ o H = some r → ∃ v, r = .val v H := by
    intro r h
    unfold evalFlat at h
    cases hf : o.op.operands.toList.all (fun x => flat (ρ x)) with
    | false => rw [hf] at h; cases h
    | true =>
      rw [hf] at h
      simp only [cond_true] at h
      split at h
      · rename_i v hs
        cases hv : flat v with
        | false => rw [hv] at h; cases h
        | true => rw [hv] at h; exact ⟨v, (Option.some.inj h).symm⟩
      · cases h
  have po : ∀ {x : Option Value} {r : ARes}, pureOr P ρ o H x = some r → ∃ v, r = .val v H := by
    intro x r h
    unfold pureOr at h
    split at h
    · exact ⟨_, (Option.some.inj h).symm⟩
    · exact fl h
  have mp : ∀ {x : Option Value} {r : ARes}, (x.map fun v => ARes.val v H) = some r → ∃ v, r = .val v H := by
    intro x r h
    cases x with
    | none => cases h
    | some v => exact ⟨v, (Option.some.inj h).symm⟩
  cases hop : o.op <;> rw [hop] at hc <;> simp only [evalOp, hop] at h <;> first
    | (exact absurd rfl hc)
    | (exact ⟨_, (Option.some.inj h).symm⟩)
    | exact mp h
    | exact po h
    | exact fl h
    | skip
  case pick c a b => split at h <;> first | exact ⟨_, (Option.some.inj h).symm⟩ | cases h
  case binOp op t x y yt =>
    split at h
    · exact ⟨_, (Option.some.inj h).symm⟩
    · split at h <;> first | exact po h | exact fl h
  case convert s d x =>
    have hsd : isSlice P d = false := by
      cases hsd : isSlice P d with
      | false => rfl
      | true => exact absurd (by simp [classOf, hsd]) hc
    have hn : convertA P s d (ρ x) H = none ∨ ∃ v, convertA P s d (ρ x) H = some (v, H) := by
      unfold convertA
      split
      · exfalso
        unfold isSlice at hsd
        simp_all
      · split
        · exact .inr ⟨_, rfl⟩
        · exact .inl rfl
      · split
        · exact .inr ⟨_, rfl⟩
        · exact .inl rfl
      · split
        · rename_i b o n c _ _ _ _
          generalize (readN _ _ _ _).bind bytesStr = y
          cases y with
          | none => exact .inl rfl
          | some l => exact .inr ⟨_, rfl⟩
        · exact .inl rfl
      · exact .inl rfl
    unfold orFlat at h
    rcases hn with hn | ⟨v, hn⟩
    · rw [hn] at h; exact fl h
    · rw [hn] at h; exact ⟨v, (Option.some.inj h).symm⟩
  case makeInterface t x => split at h <;> first | exact ⟨_, (Option.some.inj h).symm⟩ | cases h
  case slice t x lo hi mx => split at h <;> first | exact ⟨_, (Option.some.inj h).symm⟩ | exact mp h
  case index t x i => split at h <;> first | exact ⟨_, (Option.some.inj h).symm⟩ | exact mp h
  case extract t i =>
    split at h
    · exact mp h
    · cases h
  case call c =>
    cases hcc : c.callee with
    | value f => exfalso; apply hc; cases c; simp_all [classOf]
    | invoke r n => exfalso; apply hc; cases c; simp_all [classOf]
    | builtin b =>
      rw [hcc] at h
      cases b <;> simp only at h <;> first
        | (exfalso; apply hc; cases c; simp_all [classOf]; done)
        | exact fl h
        | (split at h
           · exact mp h
           · cases h)

/-- What neither reads nor writes memory yields the same in any. -/
theorem pure_heap {P : Program} {ρ : Operand → Value} {o : Oper} {H : Heap} {v : Value} (h : evalOp P ρ o H = some (.val v H)) (hc : classOf P o.op = .pure) (H' : Heap) : evalOp P ρ o H' = some (.val v H') := by
  have fl : ∀ {v : Value}, evalFlat P ρ o H = some (.val v H) → evalFlat P ρ o H' = some (.val v H') := by
    intro v h
    unfold evalFlat at h ⊢
    cases hf : o.op.operands.toList.all (fun x => flat (ρ x)) with
    | false => rw [hf] at h; cases h
    | true =>
      rw [hf] at h
      simp only [cond_true] at h ⊢
      split at h
      · rename_i v' hs
        cases hv : flat v' with
        | false => rw [hv] at h; cases h
        | true =>
          rw [hv] at h
          have h := Option.some.inj h
          injection h with h1 h2
          rw [← h1]; simp only [hv, cond_true]
      · cases h
  have vi : ∀ {v v' : Value}, some (ARes.val v H) = some (.val v' H) → v = v' := by
    intro v v' h
    have h := Option.some.inj h
    injection h
  have mp : ∀ {x : Option Value} {v : Value}, (x.map fun v => ARes.val v H) = some (.val v H) → (x.map fun v => ARes.val v H') = some (.val v H') := by
    intro x v h
    cases x with
    | none => cases h
    | some u => rw [vi h]; rfl
  have po : ∀ {x : Option Value} {v : Value}, pureOr P ρ o H x = some (.val v H) → pureOr P ρ o H' x = some (.val v H') := by
    intro x v h
    unfold pureOr at h ⊢
    split at h
    · rw [vi h]
    · exact fl h
  cases hop : o.op <;> rw [hop] at hc <;> simp only [evalOp, hop] at h ⊢ <;> first
    | (exfalso; simp [classOf] at hc; done)
    | exact congrArg some (congrArg (ARes.val · H') (vi h))
    | exact mp h
    | exact po h
    | exact fl h
    | skip
  case pick c a b => split at h <;> first | exact congrArg some (congrArg (ARes.val · H') (vi h)) | cases h
  case binOp op t x y yt =>
    split at h
    · exact congrArg some (congrArg (ARes.val · H') (vi h))
    · split at h <;> first | exact po h | exact fl h
  case convert s d x =>
    have hs : isSlice P s = false ∧ isSlice P d = false := by
      simp only [classOf] at hc
      cases h1 : isSlice P d <;> cases h2 : isSlice P s <;> simp_all
    have hn : ∀ H, convertA P s d (ρ x) H = none := by
      intro H
      unfold convertA
      split
      · exfalso; have h2 := hs.2; unfold isSlice at h2; simp_all
      · exfalso; have h2 := hs.1; unfold isSlice at h2; simp_all
      · exfalso; have h2 := hs.1; unfold isSlice at h2; simp_all
      · exfalso; have h2 := hs.1; unfold isSlice at h2; simp_all
      · rfl
    unfold orFlat at h ⊢
    rw [hn] at h ⊢
    exact fl h
  case makeInterface t x => split at h <;> first | exact congrArg some (congrArg (ARes.val · H') (vi h)) | cases h
  case index t x i => split at h <;> first | exact congrArg some (congrArg (ARes.val · H') (vi h)) | exact mp h
  case extract t i =>
    split at h
    · exact mp h
    · cases h
  case call c =>
    cases hcc : c.callee with
    | value f => exfalso; cases c; simp_all [classOf]
    | invoke r n => exfalso; cases c; simp_all [classOf]
    | builtin b =>
      rw [hcc] at h
      cases b <;> simp only at h ⊢ <;> first
        | (exfalso; cases c; simp_all [classOf]; done)
        | exact fl h
end Go.Ab
