/-
  A region that draws its order, where the text alone settles it: it comes to what its operations come to in the order of the text. Conditions: those of each law.
-/
import Derived.Test.YtnemoodjbekngaaAbMach
namespace Go.Ab

mutual
theorem valEq_refl : ∀ v : Value, valEq v v = true
  | .bool a => by simp [valEq]
  | .int j a => by simp [valEq]
  | .float j a => by simp [valEq]
  | .complex j a b => by simp [valEq]
  | .string a => by rw [valEq, eqL_eq]; simp
  | .pointer a => by simp [valEq]
  | .slice a l c => by simp [valEq]
  | .map a => by simp [valEq]
  | .chan a => by simp [valEq]
  | .nilFunc => rfl
  | .nilIface => rfl
  | .func f ⟨a⟩ ⟨b⟩ => by simp [valEq, valEqL_refl a, valEqL_refl b]
  | .iface t v => by simp [valEq, valEq_refl v]
  | .agg ⟨a⟩ => by simp [valEq, valEqL_refl a]
  | .tuple ⟨a⟩ => by simp [valEq, valEqL_refl a]
theorem valEqL_refl : ∀ l : List Value, valEqL l l = true
  | [] => rfl
  | v :: l => by simp [valEqL, valEq_refl v, valEqL_refl l]
end

/-- The order of the text settles all: effects one behind the other, each that reads on one side of each effect. -/
def isEffect (P : Program) (o : Oper) : Bool := match classOf P o.op with | .effect => true | _ => false
def isReads (P : Program) (o : Oper) : Bool := match classOf P o.op with | .reads => true | _ => false
/-- What makes a block and leaves the others. -/
def isAlloc (o : Oper) : Bool := match o.op with | .alloc _ | .box .. | .buildSlice .. | .makeSlice .. => true | _ => false
def HExt (H H' : Heap) : Prop := ∀ i o, H.get i = some o → H'.get i = some o
theorem HExt.push (H : Heap) (o : AObj) : HExt H (H.push o) := fun i x h => by
  have := Heap.lt_of_get h
  rw [Heap.get_push, if_neg (by omega)]; exact h
theorem alloc_ext {P : Program} {call : CallF} {fr : Fr} {o : Oper} {H H' : Heap} {v : Value} (ha : isAlloc o = true) (h : stepOp P call fr o H = some (v, H')) : HExt H H' := by
  unfold isAlloc at ha
  have hb : ∀ {r : Option (Value × Heap)}, (∀ v H', r = some (v, H') → HExt H H') → (match (r.map (fun x => ARes.val x.1 x.2) : Option ARes) with | some (ARes.val v H) => some (v, H) | some (ARes.call f args) => call f args H | none => none) = some (v, H') → HExt H H' := by
    intro r hr h
    cases r with
    | none => simp at h
    | some x => obtain ⟨v1, H1⟩ := x; simp at h; obtain ⟨rfl, rfl⟩ := h; exact hr _ _ rfl
  split at ha <;> rename_i hop
  · simp only [stepOp, evalOp, hop] at h
    cases hz : zeroOf P ‹_› with
    | none => rw [hz] at h; simp at h
    | some z => rw [hz] at h; simp at h; obtain ⟨_, rfl⟩ := h; exact HExt.push _ _
  · simp only [stepOp, evalOp, hop] at h
    simp at h; obtain ⟨_, rfl⟩ := h; exact HExt.push _ _
  · simp only [stepOp, evalOp, hop] at h
    refine hb (fun v1 H1 hr => ?_) h
    unfold buildSliceA at hr
    split at hr
    · split at hr
      · rw [Bool.cond_eq_ite] at hr
        split at hr
        · rw [Option.map_eq_some_iff] at hr
          obtain ⟨l, _, hl⟩ := hr
          simp only [Prod.mk.injEq] at hl
          obtain ⟨_, rfl⟩ := hl
          exact HExt.push _ _
        · cases hr
      · cases hr
    · cases hr
  · simp only [stepOp, evalOp, hop] at h
    refine hb (fun v1 H1 hr => ?_) h
    unfold makeSliceA at hr
    split at hr
    · split at hr
      · split at hr
        · simp only [Option.some.injEq, Prod.mk.injEq] at hr
          obtain ⟨_, rfl⟩ := hr
          exact HExt.push _ _
        · cases hr
      · cases hr
    · cases hr
  · cases ha
theorem read1_ext {H H' : Heap} (he : HExt H H') {b o : Nat} {v : Value} (h : read1 H b o = some v) : read1 H' b o = some v := by
  unfold read1 at h ⊢
  cases hg : H.get b with
  | none => rw [hg] at h; cases h
  | some x => rw [hg] at h; rw [he b x hg]; exact h
theorem readN_ext {H H' : Heap} (he : HExt H H') {b o n : Nat} {v : List Value} (h : readN H b o n = some v) : readN H' b o n = some v := by
  unfold readN at h ⊢
  cases hg : H.get b with
  | none => rw [hg] at h; cases h
  | some x => rw [hg] at h; rw [he b x hg]; exact h
theorem boxRow_ext {H H' : Heap} (he : HExt H H') {b : Nat} (h : boxRow H b = true) : boxRow H' b = true := by
  unfold boxRow at h ⊢
  cases hg : H.get b with
  | none => rw [hg] at h; cases h
  | some x => rw [hg] at h; rw [he b x hg]; exact h
theorem fitsRow_ext {H H' : Heap} (he : HExt H H') {b s : Nat} (h : ¬ fitsRow H b s = false) : ¬ fitsRow H' b s = false := by
  unfold fitsRow at h ⊢
  cases hg : H.get b with
  | none => rw [hg] at h; exact absurd rfl h
  | some x => rw [hg] at h; rw [he b x hg]; exact h
theorem loadA_ext {P : Program} {H H' : Heap} (he : HExt H H') {t : TypeId} {x v : Value} (h : loadA P t x H = some v) : loadA P t x H' = some v := by
  unfold loadA at h ⊢
  split at h
  · split at h
    · split at h
      · rw [Option.map_eq_some_iff] at h
        obtain ⟨l, h1, h2⟩ := h
        simp only [readN_ext he h1, Option.map_some, h2, *]
      · cases h
    · simp only [read1_ext he h, *]
    · cases h
  · cases h
theorem sliceA_ext {P : Program} {H H' : Heap} (he : HExt H H') {t : TypeId} {x v : Value} {lo hi mx : Option Value} (h : sliceA P t x lo hi mx H = some v) : sliceA P t x lo hi mx H' = some v := by
  unfold sliceA at h ⊢
  split at h
  · split at h
    · rw [Bool.cond_eq_ite] at h
      split at h
      · rename_i hb
        simp only [boxRow_ext he hb, cond_true, *]
      · cases h
    · cases h
  · split at h
    · exact h
    · cases h
  · split at h
    · split at h
      · simp only [if_pos, *]
      · split at h
        · cases h
        · rename_i h0 hf
          simp only [if_neg h0, if_neg (fitsRow_ext he hf), if_false, *]
    · cases h
  · cases h
theorem lenA_ext {P : Program} {H H' : Heap} (he : HExt H H') {at_ : Array TypeId} {x v : Value} (h : lenA P at_ x H = some v) : lenA P at_ x H' = some v := by
  unfold lenA at h ⊢
  split at h
  · exact h
  · exact h
  · exact h
  · rename_i r _
    split at h
    · rename_i hg
      simp only [he _ _ hg, h]
    · cases h
  · cases h
theorem convertA_ext {P : Program} {H H' : Heap} (he : HExt H H') {s t : TypeId} {x v : Value} {H1 : Heap} (hs : isSlice P s = true) (h : convertA P s t x H = some (v, H1)) : convertA P s t x H' = some (v, H') := by
  unfold convertA at h ⊢
  split at h
  · rename_i hu _
    unfold isSlice at hs
    rw [hu] at hs
    cases hs
  · split at h
    · simp only [Option.some.injEq, Prod.mk.injEq] at h; simp only [h.1, *]
    · cases h
  · split at h
    · simp only [Option.some.injEq, Prod.mk.injEq] at h; simp only [h.1, *]
    · cases h
  · split at h
    · rw [Option.map_eq_some_iff] at h
      obtain ⟨l, h1, h2⟩ := h
      simp only [Prod.mk.injEq] at h2
      rw [Option.bind_eq_some_iff] at h1
      obtain ⟨y, h3, h4⟩ := h1
      simp only [readN_ext he h3, Option.bind_some, h4, Option.map_some, h2.1, *]
    · cases h
  · cases h
theorem ext_reads {P : Program} {ρ : Operand → Value} {o : Oper} {H H1 H' : Heap} {v : Value} (hc : classOf P o.op = .reads) (he : HExt H H1) (h : evalOp P ρ o H = some (.val v H')) : ∃ H2, evalOp P ρ o H1 = some (.val v H2) := by
  have mp : ∀ {r r1 : Option Value} {K K1 K' : Heap}, (∀ v, r = some v → r1 = some v) → r.map (fun v => ARes.val v K) = some (.val v K') → ∃ H2, r1.map (fun v => ARes.val v K1) = some (.val v H2) := by
    intro r r1 K K1 K' hr h
    rw [Option.map_eq_some_iff] at h
    obtain ⟨w, h1, h2⟩ := h
    simp only [ARes.val.injEq] at h2
    obtain ⟨rfl, _⟩ := h2
    exact ⟨K1, by rw [hr w h1]; rfl⟩
  have flt : ∀ {K K1 K' : Heap}, evalFlat P ρ o K = some (.val v K') → ∃ H2, evalFlat P ρ o K1 = some (.val v H2) := by
    intro K K1 K' h
    unfold evalFlat at h ⊢
    rw [Bool.cond_eq_ite] at h ⊢
    split at h
    · rename_i hf
      rw [if_pos hf]
      split at h
      · rw [Bool.cond_eq_ite] at h
        split at h
        · rename_i hv
          simp only [Option.some.injEq, ARes.val.injEq] at h
          obtain ⟨rfl, _⟩ := h
          exact ⟨K1, by simp only [hv, cond_true, *]⟩
        · cases h
      · cases h
    · cases h
  cases hop : o.op with
  | load t a =>
    simp only [evalOp, hop] at h ⊢
    exact mp (fun v hv => loadA_ext he hv) h
  | slice t x lo hi mx =>
    simp only [evalOp, hop] at h ⊢
    cases hs : strSliceA P t (ρ x) (lo.map ρ) (hi.map ρ) (mx.map ρ) with
    | some w =>
      rw [hs] at h
      simp only [Option.some.injEq, ARes.val.injEq] at h
      obtain ⟨rfl, _⟩ := h
      exact ⟨H1, rfl⟩
    | none =>
      rw [hs] at h
      simp only at h ⊢
      exact mp (fun v hv => sliceA_ext he hv) h
  | convert s t x =>
    have hs : isSlice P s = true := by
      unfold classOf at hc
      rw [hop] at hc
      simp only at hc
      cases h1 : isSlice P t with
      | true => rw [h1] at hc; simp at hc
      | false =>
        rw [h1] at hc
        cases h2 : isSlice P s with
        | true => rfl
        | false => rw [h2] at hc; simp at hc
    simp only [evalOp, hop, orFlat] at h ⊢
    cases hv : convertA P s t (ρ x) H with
    | some w =>
      obtain ⟨w, K⟩ := w
      rw [hv] at h
      simp only [Option.some.injEq, ARes.val.injEq] at h
      obtain ⟨rfl, _⟩ := h
      exact ⟨H1, by rw [convertA_ext he hs hv]⟩
    | none =>
      rw [hv] at h
      simp only at h
      cases hv1 : convertA P s t (ρ x) H1 with
      | none => simp only; exact flt h
      | some w =>
        exfalso
        have hfl : flat (ρ x) = true := by
          unfold evalFlat at h
          rw [Bool.cond_eq_ite] at h
          split at h
          · rename_i hf
            rw [hop] at hf
            simpa [Op.operands] using hf
          · cases h
        have : convertA P s t (ρ x) H = some (w.1, H) := by
          unfold convertA at hv1 ⊢
          unfold isSlice at hs
          split at hv1
          · rename_i hu _ _; rw [hu] at hs; cases hs
          · split at hv1
            · simp only [Option.some.injEq] at hv1; subst hv1; simp only [*]
            · cases hv1
          · rename_i heq
            rw [heq] at hfl; simp [flat] at hfl
          · rename_i heq
            rw [heq] at hfl; simp [flat] at hfl
          · cases hv1
        rw [this] at hv; cases hv
  | call c =>
    obtain ⟨cal, args, at_⟩ := c
    unfold classOf at hc
    rw [hop] at hc
    cases cal with
    | builtin b =>
      cases b <;> simp at hc
      simp only [evalOp, hop] at h ⊢
      cases ha : args[0]? with
      | none => rw [ha] at h; cases h
      | some x =>
        rw [ha] at h
        simp only at h ⊢
        exact mp (fun v hv => lenA_ext he hv) h
    | value f => simp at hc
    | invoke r n => simp at hc
  | _ => unfold classOf at hc; rw [hop] at hc; simp at hc
def drawOk (P : Program) (n : Nat) (ops : List Oper) : Bool :=
  depsOk ops && (ops.all fun o => match o.dst with | some d => Nat.blt d n | none => true) &&
  (let bs := befs ops
   ops.zipIdx.all fun x => ops.zipIdx.all fun y =>
    (!(isEffect P x.1 && (isEffect P y.1 || isReads P y.1) && Nat.blt x.2 y.2) || (bs.getD y.2 []).any (Nat.beq x.2)) &&
    (!(isReads P x.1 && isEffect P y.1 && Nat.blt x.2 y.2) || ((bs.getD y.2 []).any (Nat.beq x.2) || isAlloc y.1)))

theorem isEffect_iff {P : Program} {o : Oper} : isEffect P o = true ↔ classOf P o.op = .effect := by unfold isEffect; cases classOf P o.op <;> simp
theorem isReads_iff {P : Program} {o : Oper} : isReads P o = true ↔ classOf P o.op = .reads := by unfold isReads; cases classOf P o.op <;> simp
theorem any_mem {l : List Nat} {i : Nat} (h : l.any (Nat.beq i) = true) : i ∈ l := by
  obtain ⟨x, hx, he⟩ := List.any_eq_true.1 h
  rw [Nat.eq_of_beq_eq_true he]; exact hx
theorem mem_any {l : List Nat} {i : Nat} (h : i ∈ l) : l.any (Nat.beq i) = true := List.any_eq_true.2 ⟨i, h, Nat.beq_refl i⟩

section
variable {P : Program} {call : CallF} {all : Array Oper}

theorem runOps_text : ∀ (l : List Oper) (i : Nat) (fr : Fr) (H : Heap), runOps P call all l fr H = (textRun P call all l i fr H).map fun r => (r.1, lastHeap H r.2)
  | [], i, fr, H => rfl
  | o :: l, i, fr, H => by
    simp only [runOps, textRun]
    cases hw : Region.wanted o (yieldedA all fr) with
    | false =>
      simp only [cond_false]
      exact runOps_text l (i + 1) _ H
    | true =>
      simp only [cond_true]
      cases hs : stepOp P call fr o H with
      | none => rfl
      | some r =>
        obtain ⟨v, H1⟩ := r
        simp only
        rw [runOps_text l (i + 1) _ H1]
        cases ht : textRun P call all l (i + 1) (fr.put o.dst v) H1 with
        | none => rfl
        | some r =>
          obtain ⟨fr2, es⟩ := r
          simp only [Option.map_some]
          cases hc : classOf P o.op with
          | effect => simp only [lastHeap_cons]
          | pure => rw [(stepOp_quiet hs (by rw [hc]; simp)).1]
          | reads => rw [(stepOp_quiet hs (by rw [hc]; simp)).1]

theorem textRun_eff : ∀ (l : List Oper) (i : Nat) (fr : Fr) (H : Heap) (fr' : Fr) (es : List (Nat × Heap)), textRun P call all l i fr H = some (fr', es) →
    es.Pairwise (fun a b => a.1 < b.1) ∧ ∀ e ∈ es, i ≤ e.1 ∧ ∃ o, l[e.1 - i]? = some o ∧ classOf P o.op = .effect
  | [], i, fr, H, fr', es, h => by
    simp only [textRun, Option.some.injEq, Prod.mk.injEq] at h
    obtain ⟨rfl, rfl⟩ := h
    exact ⟨List.Pairwise.nil, fun e he => by simp at he⟩
  | o :: l, i, fr, H, fr', es, h => by
    simp only [textRun] at h
    have lift : ∀ es' : List (Nat × Heap), (es'.Pairwise (fun a b => a.1 < b.1) ∧ ∀ e ∈ es', i + 1 ≤ e.1 ∧ ∃ o, l[e.1 - (i + 1)]? = some o ∧ classOf P o.op = .effect) →
        ∀ e ∈ es', i < e.1 ∧ ∃ o', (o :: l)[e.1 - i]? = some o' ∧ classOf P o'.op = .effect := by
      intro es' hh e he
      obtain ⟨h1, o', h2, h3⟩ := hh.2 e he
      refine ⟨by omega, o', ?_, h3⟩
      rw [show e.1 - i = (e.1 - (i + 1)) + 1 by omega]
      simpa using h2
    cases hw : Region.wanted o (yieldedA all fr) with
    | false =>
      rw [hw] at h
      simp only [cond_false] at h
      have ih := textRun_eff l (i + 1) _ _ _ _ h
      exact ⟨ih.1, fun e he => let ⟨a, b⟩ := lift es ih e he; ⟨by omega, b⟩⟩
    | true =>
      rw [hw] at h
      simp only [cond_true] at h
      cases hs : stepOp P call fr o H with
      | none => rw [hs] at h; cases h
      | some r =>
        obtain ⟨v, H1⟩ := r
        rw [hs] at h
        simp only at h
        cases ht : textRun P call all l (i + 1) (fr.put o.dst v) H1 with
        | none => rw [ht] at h; cases h
        | some r =>
          obtain ⟨fr2, es2⟩ := r
          rw [ht] at h
          simp only [Option.some.injEq, Prod.mk.injEq] at h
          obtain ⟨_, hes⟩ := h
          have ih := textRun_eff l (i + 1) _ _ _ _ ht
          have lf := lift es2 ih
          cases hc : classOf P o.op with
          | effect =>
            rw [hc] at hes
            simp only at hes
            subst hes
            refine ⟨List.pairwise_cons.2 ⟨fun e he => (lf e he).1, ih.1⟩, fun e he => ?_⟩
            rcases List.mem_cons.1 he with rfl | he
            · exact ⟨Nat.le_refl _, o, by simp, hc⟩
            · exact ⟨by have := (lf e he).1; omega, (lf e he).2⟩
          | pure => rw [hc] at hes; simp only at hes; subst hes; exact ⟨ih.1, fun e he => ⟨by have := (lf e he).1; omega, (lf e he).2⟩⟩
          | reads => rw [hc] at hes; simp only at hes; subst hes; exact ⟨ih.1, fun e he => ⟨by have := (lf e he).1; omega, (lf e he).2⟩⟩

theorem chained_of {bs : List (List Nat)} : ∀ es : List (Nat × Heap), es.Pairwise (fun a b => a.1 ∈ bs.getD b.1 []) → chained bs es = true
  | [], _ => rfl
  | [_], _ => rfl
  | (i, A) :: (j, B) :: r, h => by
    rw [chained, Bool.and_eq_true]
    obtain ⟨h1, h2⟩ := List.pairwise_cons.1 h
    exact ⟨mem_any (h1 (j, B) (by simp)), chained_of ((j, B) :: r) h2⟩

/-- Each that comes up behind it waits for it, or makes a block and leaves the others. -/
def Quiet (bs : List (List Nat)) (i : Nat) : Heap → List (Nat × Heap) → Prop
  | _, [] => True
  | H, (e, H1) :: r => i ∈ bs.getD e [] ∨ (HExt H H1 ∧ Quiet bs i H1 r)
theorem reads_behind {fr : Fr} {bs : List (List Nat)} {i : Nat} {o : Oper} {v : Value} (hc : classOf P o.op = .reads) (hv : ∀ d, o.dst = some d → v = fr.get d) : ∀ (esa : List (Nat × Heap)) (H H' : Heap), Quiet bs i H esa → evalOp P fr.eval o H = some (.val v H') → readsSame P fr bs i o H esa = true
  | esa, H, H', hq, he => by
    have key : (esa.any (fun e => (bs.getD i []).any (Nat.beq e.1)) || (match evalOp P fr.eval o H with
        | some (.val v _) => (match o.dst with | some d => valEq v (fr.get d) | none => true)
        | _ => false)) = true := by
      rw [Bool.or_eq_true]
      right
      rw [he]
      simp only
      cases hd : o.dst with
      | none => rfl
      | some d => simp only; rw [hv d hd]; exact valEq_refl _
    cases esa with
    | nil => rw [readsSame, Bool.and_eq_true]; exact ⟨key, rfl⟩
    | cons e r =>
      obtain ⟨e1, e2⟩ := e
      rw [readsSame, Bool.and_eq_true]
      refine ⟨key, ?_⟩
      rw [Bool.or_eq_true]
      rcases hq with hq | ⟨hx, hq⟩
      · exact .inl (mem_any hq)
      · obtain ⟨H2, h2⟩ := ext_reads hc hx he
        exact .inr (reads_behind hc hv r e2 H2 hq h2)
termination_by esa => esa.length
theorem reads_of {fr : Fr} {bs : List (List Nat)} {i : Nat} {o : Oper} {v : Value} {H' : Heap} (hc : classOf P o.op = .reads) : ∀ (esb esa : List (Nat × Heap)) (H : Heap), (∀ e ∈ esb, e.1 ∈ bs.getD i []) → Quiet bs i (lastHeap H esb) esa →
    evalOp P fr.eval o (lastHeap H esb) = some (.val v H') → (∀ d, o.dst = some d → v = fr.get d) → readsSame P fr bs i o H (esb ++ esa) = true
  | [], esa, H, _, ha, he, hv => reads_behind hc hv esa H H' ha he
  | (e, H1) :: esb, esa, H, hb, ha, he, hv => by
    rw [List.cons_append, readsSame, Bool.and_eq_true]
    refine ⟨?_, ?_⟩
    · rw [Bool.or_eq_true]
      left
      exact List.any_eq_true.2 ⟨(e, H1), by simp, mem_any (hb (e, H1) (by simp))⟩
    · rw [Bool.or_eq_true]
      right
      exact reads_of hc esb esa H1 (fun e he => hb e (by simp [he])) (by rw [← lastHeap_cons H e H1]; exact ha) (by rw [← lastHeap_cons H e H1]; exact he) hv
/-- Where a block is made, the others stay. -/
def Chain (ops : List Oper) : Heap → List (Nat × Heap) → Prop
  | _, [] => True
  | H, (e, H1) :: r => (∀ o, ops[e]? = some o → isAlloc o = true → HExt H H1) ∧ Chain ops H1 r
theorem textRun_chain (ops : List Oper) : ∀ (l : List Oper) (i : Nat) (fr : Fr) (H : Heap) (fr' : Fr) (es : List (Nat × Heap)), (∀ k o, l[k]? = some o → ops[i + k]? = some o) → textRun P call all l i fr H = some (fr', es) → Chain ops H es
  | [], i, fr, H, fr', es, _, h => by
    simp only [textRun, Option.some.injEq, Prod.mk.injEq] at h
    obtain ⟨rfl, rfl⟩ := h
    trivial
  | o :: l, i, fr, H, fr', es, hl, h => by
    have hl' : ∀ k o, l[k]? = some o → ops[i + 1 + k]? = some o := fun k o hk => by
      rw [show i + 1 + k = i + (k + 1) by omega]; exact hl (k + 1) o (by simpa using hk)
    have h0 : ops[i]? = some o := by simpa using hl 0 o rfl
    simp only [textRun] at h
    cases hw : Region.wanted o (yieldedA all fr) with
    | false =>
      rw [hw] at h
      simp only [cond_false] at h
      exact textRun_chain ops l (i + 1) _ _ _ _ hl' h
    | true =>
      rw [hw] at h
      simp only [cond_true] at h
      cases hs : stepOp P call fr o H with
      | none => rw [hs] at h; cases h
      | some r =>
        obtain ⟨v, H1⟩ := r
        rw [hs] at h
        simp only at h
        cases ht : textRun P call all l (i + 1) (fr.put o.dst v) H1 with
        | none => rw [ht] at h; cases h
        | some r =>
          obtain ⟨fr2, es2⟩ := r
          rw [ht] at h
          simp only [Option.some.injEq, Prod.mk.injEq] at h
          obtain ⟨_, hes⟩ := h
          have ih := textRun_chain ops l (i + 1) _ _ _ _ hl' ht
          cases hc : classOf P o.op with
          | effect =>
            rw [hc] at hes
            simp only at hes
            subst hes
            exact ⟨fun o' ho' ha => by rw [h0] at ho'; obtain rfl := Option.some.inj ho'; exact alloc_ext ha hs, ih⟩
          | pure => rw [hc] at hes; simp only at hes; subst hes; rw [(stepOp_quiet hs (by rw [hc]; simp)).1] at ih; exact ih
          | reads => rw [hc] at hes; simp only at hes; subst hes; rw [(stepOp_quiet hs (by rw [hc]; simp)).1] at ih; exact ih
theorem Chain.behind {ops : List Oper} : ∀ (esb esa : List (Nat × Heap)) (H : Heap), Chain ops H (esb ++ esa) → Chain ops (lastHeap H esb) esa
  | [], _, _, h => h
  | (e, H1) :: esb, esa, H, h => by rw [lastHeap_cons]; exact Chain.behind esb esa H1 h.2
theorem Chain.quiet {ops : List Oper} {bs : List (List Nat)} {i : Nat} : ∀ (esa : List (Nat × Heap)) (H : Heap), Chain ops H esa → (∀ e ∈ esa, i ∈ bs.getD e.1 [] ∨ ∃ o, ops[e.1]? = some o ∧ isAlloc o = true) → Quiet bs i H esa
  | [], _, _, _ => trivial
  | (e, H1) :: r, H, h, ha => by
    rcases ha (e, H1) (by simp) with h1 | ⟨o, h1, h2⟩
    · exact .inl h1
    · exact .inr ⟨h.1 o h1 h2, Chain.quiet r H1 h.2 fun e he => ha e (by simp [he])⟩
end

theorem draw_text {P : Program} {call : CallF} {ops : List Oper} {fr : Fr} {H : Heap} (h : drawOk P fr.n ops = true) : runDraw P call ops.toArray fr H = runOps P call ops.toArray ops fr H := by
  unfold drawOk at h
  simp only [Bool.and_eq_true] at h
  obtain ⟨⟨hd, hn⟩, hp⟩ := h
  rw [runOps_text ops 0]
  unfold runDraw
  simp only [List.toList_toArray]
  cases ht : textRun P call ops.toArray ops 0 fr H with
  | none => rfl
  | some r =>
    obtain ⟨fr', es⟩ := r
    simp only [Option.map_some]
    obtain ⟨hpair, heff⟩ := textRun_eff ops 0 _ _ _ _ ht
    obtain ⟨hnum, _, _, spec⟩ := textRun_spec ops 0 _ _ _ _ ht
    have pair : ∀ {a b : Nat} {p q : Oper}, ops[a]? = some p → ops[b]? = some q → a < b → (isEffect P p = true ∧ (isEffect P q = true ∨ isReads P q = true)) ∨ (isReads P p = true ∧ isEffect P q = true) → a ∈ (befs ops).getD b [] ∨ (isReads P p = true ∧ isAlloc q = true) := by
      intro a b p q ha hb hab hc
      have h1 := List.all_eq_true.1 (List.all_eq_true.1 hp (p, a) (zip_mem ha)) (q, b) (zip_mem hb)
      simp only [Bool.and_eq_true, Bool.or_eq_true, Bool.not_eq_true'] at h1
      have hlt : Nat.blt a b = true := by rw [Nat.blt_eq]; exact hab
      rcases hc with ⟨h2, h3⟩ | ⟨h2, h3⟩
      · rcases h1.1 with h4 | h4
        · exfalso
          rcases h3 with h3 | h3 <;> simp [h2, h3, hlt] at h4
        · exact .inl (any_mem h4)
      · rcases h1.2 with h4 | h4
        · exfalso
          simp [h2, h3, hlt] at h4
        · rcases h4 with h4 | h4
          · exact .inl (any_mem h4)
          · exact .inr ⟨h2, h4⟩
    have eop : ∀ e ∈ es, ∃ o, ops[e.1]? = some o ∧ isEffect P o = true := fun e he => let ⟨_, o, h1, h2⟩ := heff e he; ⟨o, by simpa using h1, isEffect_iff.2 h2⟩
    have hch : chained (befs ops) es = true := by
      refine chained_of es ?_
      refine List.Pairwise.imp_of_mem ?_ hpair
      intro a b ha hb hab
      obtain ⟨p, hp1, hp2⟩ := eop a ha
      obtain ⟨q, hq1, hq2⟩ := eop b hb
      rcases pair hp1 hq1 hab (.inl ⟨hp2, .inl hq2⟩) with h | h
      · exact h
      · exfalso; rw [isEffect_iff] at hp2; have := isReads_iff.1 h.1; rw [hp2] at this; cases this
    have hall : (ops.zipIdx.all fun x => match classOf P x.1.op with
      | .reads => bif Region.wanted x.1 (yieldedA ops.toArray fr') then readsSame P fr' (befs ops) x.2 x.1 H es else true
      | _ => true) = true := by
      refine List.all_eq_true.2 fun x hx => ?_
      obtain ⟨o, i⟩ := x
      have ho : ops[i]? = some o := by
        rw [List.mem_zipIdx_iff_getElem?] at hx; exact hx
      cases hc : classOf P o.op with
      | pure => rfl
      | effect => rfl
      | reads =>
        simp only
        obtain ⟨fi, Hi, esb, esa, k1, k2, k3, k4, k5, k6⟩ := spec i o ho
        simp only [Nat.zero_add] at k3 k4 k5
        have hwant : Region.wanted o (yieldedA ops.toArray fi) = Region.wanted o (yieldedA ops.toArray fr') := wanted_congr fun k b hk => by
          have hki := deps_guard hd ho hk
          unfold yieldedA
          cases hpk : ops.toArray[k]? with
          | none => rfl
          | some p =>
            have hpk' : ops[k]? = some p := by simpa using hpk
            simp only [Option.bind_some]
            cases hpd : p.dst with
            | none => rfl
            | some t =>
              have e1 : fi.get t = fr'.get t := k1 t fun m q hm hq hqd => by
                have := deps_dst hd hq hpk' hpd hqd
                omega
              simp only [e1]
        cases hw : Region.wanted o (yieldedA ops.toArray fr') with
        | false => rfl
        | true =>
          rw [cond_true]
          obtain ⟨v, Hn, m1, m2, m3⟩ := k5 (by rw [hwant]; exact hw)
          rw [hc] at m3
          simp only [reduceCtorEq, if_false, List.append_nil] at m3
          obtain ⟨_, hq⟩ := stepOp_quiet m1 (by rw [hc]; simp)
          have hev : ∀ x ∈ o.op.operands.toList, fi.eval x = fr'.eval x := eval_congr fun t ht' => k1 t fun m p hm hp' hpd => by
            obtain ⟨hwf, hne⟩ := deps_use hd ho hp' hpd ht'
            obtain ⟨e, he, hb, hon⟩ := waits_edge hwf
            have := deps_after hd ho he hb
            omega
          rw [evalOp_congr hev, k2] at hq
          rw [m3]
          have hchn := textRun_chain ops ops 0 _ _ _ _ (fun k o h => by simpa using h) ht
          rw [m3] at hchn
          refine reads_of hc esb esa H (fun e he => ?_) (Chain.quiet esa _ (Chain.behind esb esa H hchn) fun e he => ?_) hq (fun d hod => ?_)
          · obtain ⟨q, h1, h2⟩ := eop e (by rw [m3]; simp [he])
            rcases pair h1 ho (k3 e he) (.inl ⟨h2, .inr (isReads_iff.2 hc)⟩) with h | h
            · exact h
            · exfalso; rw [isEffect_iff] at h2; have := isReads_iff.1 h.1; rw [h2] at this; cases this
          · obtain ⟨q, h1, h2⟩ := eop e (by rw [m3]; simp [he])
            rcases pair ho h1 (k4 e he) (.inr ⟨isReads_iff.2 hc, h2⟩) with h | h
            · exact .inl h
            · exact .inr ⟨q, h1, h.2⟩
          · have hdn := List.all_eq_true.1 hn o (List.mem_of_getElem? ho)
            rw [hod] at hdn
            exact (m2 d hod (by simpa [Nat.blt_eq] using hdn) fun m p hm hp' hpd => by
              have := deps_dst hd ho hp' hpd hod
              omega).symm
    rw [hd, hch, Bool.cond_eq_ite, if_pos ?_]
    · rfl
    · simp only [Bool.and_self, Bool.true_and]
      exact hall

theorem M_draw {P : Program} {prim : CallF} {Q : AExit → Fr → Heap → Prop} {k : List Item} {fr : Fr} {H : Heap} {id : Nat} {l : List Oper} {n : Nat} (hn : fr.n = n) (h : drawOk P n l = true) :
    M P prim Q (.code (.region id l.toArray true) :: k) .normal fr H = M P prim Q (.ops l l :: k) .normal fr H := by
  refine M_iff 0 fun m _ => ?_
  simp only [rs, evalC, cond_true]
  rw [draw_text (by rw [hn]; exact h)]
  cases runOps P (evalF P prim m) l.toArray l fr H with
  | none => rfl
  | some r => rfl
end Go.Ab
