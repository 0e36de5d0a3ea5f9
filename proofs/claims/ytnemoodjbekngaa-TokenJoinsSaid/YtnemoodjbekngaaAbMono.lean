/-
  More fuel changes nothing that has come out: the abstract machine's runs. Conditions: those of each law.
-/
import Derived.Test.YtnemoodjbekngaaAbRow
namespace Go.Ab

def LeC (c c' : CallF) : Prop := ∀ f a H r, c f a H = some r → c' f a H = some r
section
variable {P : Program} {call call' : CallF} {all : Array Oper}
theorem stepOp_mono (hc : LeC call call') {fr : Fr} {o : Oper} {H : Heap} {r : Value × Heap} (h : stepOp P call fr o H = some r) : stepOp P call' fr o H = some r := by
  unfold stepOp at h ⊢
  split at h
  · exact h
  · exact hc _ _ _ _ h
  · cases h
theorem runOps_mono (hc : LeC call call') : ∀ (l : List Oper) (fr : Fr) (H : Heap) (r : Fr × Heap), runOps P call all l fr H = some r → runOps P call' all l fr H = some r
  | [], _, _, _, h => h
  | o :: l, fr, H, r, h => by
    simp only [runOps] at h ⊢
    cases hw : Region.wanted o (yieldedA all fr) with
    | false => rw [hw] at h; exact runOps_mono hc l _ _ _ h
    | true =>
      rw [hw] at h
      simp only [cond_true] at h ⊢
      cases hs : stepOp P call fr o H with
      | none => rw [hs] at h; cases h
      | some x => rw [hs] at h; rw [stepOp_mono hc hs]; exact runOps_mono hc l _ _ _ h
theorem textRun_mono (hc : LeC call call') : ∀ (l : List Oper) (i : Nat) (fr : Fr) (H : Heap) (r : Fr × List (Nat × Heap)), textRun P call all l i fr H = some r → textRun P call' all l i fr H = some r
  | [], _, _, _, _, h => h
  | o :: l, i, fr, H, r, h => by
    simp only [textRun] at h ⊢
    cases hw : Region.wanted o (yieldedA all fr) with
    | false => rw [hw] at h; exact textRun_mono hc l _ _ _ _ h
    | true =>
      rw [hw] at h
      simp only [cond_true] at h ⊢
      cases hs : stepOp P call fr o H with
      | none => rw [hs] at h; cases h
      | some x =>
        obtain ⟨v, H1⟩ := x
        rw [hs] at h; rw [stepOp_mono hc hs]
        simp only at h ⊢
        cases ht : textRun P call all l (i + 1) (fr.put o.dst v) H1 with
        | none => rw [ht] at h; cases h
        | some y => rw [ht] at h; rw [textRun_mono hc l _ _ _ _ ht]; exact h
theorem runDraw_mono (hc : LeC call call') {fr : Fr} {H : Heap} {r : Fr × Heap} (h : runDraw P call all fr H = some r) : runDraw P call' all fr H = some r := by
  unfold runDraw at h ⊢
  cases ht : textRun P call all all.toList 0 fr H with
  | none => rw [ht] at h; cases h
  | some x => rw [ht] at h; rw [textRun_mono hc _ _ _ _ _ ht]; exact h
def LeB (b b' : Fr → Heap → Out) : Prop := ∀ fr H r, b fr H = some r → b' fr H = some r
theorem iter_mono {b b' : Fr → Heap → Out} (hb : LeB b b') : ∀ (n m : Nat), n ≤ m → ∀ fr H r, iter b n fr H = some r → iter b' m fr H = some r
  | 0, _, _, _, _, _, h => by cases h
  | n + 1, m, hm, fr, H, r, h => by
    obtain ⟨m, rfl⟩ : ∃ k, m = k + 1 := ⟨m - 1, by omega⟩
    simp only [iter] at h ⊢
    cases hs : b fr H with
    | none => rw [hs] at h; cases h
    | some x =>
      obtain ⟨y, fr1, H1⟩ := x
      rw [hs] at h; rw [hb _ _ _ hs]
      cases y with
      | normal => exact iter_mono hb n m (by omega) _ _ _ h
      | exit id => exact h
      | ret => exact h
theorem evalC_mono (hc : LeC call call') {n m : Nat} (hnm : n ≤ m) : ∀ (c : Code) (fr : Fr) (H : Heap) (r : AExit × Fr × Heap), evalC P call n c fr H = some r → evalC P call' m c fr H = some r := by
  intro c
  induction c with
  | region id ops draw =>
    intro fr H r h
    simp only [evalC] at h ⊢
    cases draw with
    | true =>
      simp only [cond_true] at h ⊢
      cases hs : runDraw P call ops fr H with
      | none => rw [hs] at h; cases h
      | some x => rw [hs] at h; rw [runDraw_mono hc hs]; exact h
    | false =>
      simp only [cond_false] at h ⊢
      cases hs : runOps P call ops ops.toList fr H with
      | none => rw [hs] at h; cases h
      | some x => rw [hs] at h; rw [runOps_mono hc _ _ _ _ hs]; exact h
  | seq a b iha ihb =>
    intro fr H r h
    simp only [evalC] at h ⊢
    cases hs : evalC P call n a fr H with
    | none => rw [hs] at h; cases h
    | some x =>
      obtain ⟨y, fr1, H1⟩ := x
      rw [hs] at h; rw [iha _ _ _ hs]
      cases y with
      | normal => exact ihb _ _ _ h
      | exit id => exact h
      | ret => exact h
  | cond v t e iht ihe =>
    intro fr H r h
    simp only [evalC] at h ⊢
    split at h
    · rename_i b hb
      cases b with
      | true => exact iht _ _ _ h
      | false => exact ihe _ _ _ h
    · cases h
  | block id c ih =>
    intro fr H r h
    simp only [evalC] at h ⊢
    cases hs : evalC P call n c fr H with
    | none => rw [hs] at h; cases h
    | some x => rw [hs] at h; rw [ih _ _ _ hs]; exact h
  | loop c ih =>
    intro fr H r h
    simp only [evalC] at h ⊢
    exact iter_mono (fun fr H r h => ih fr H r h) n m hnm fr H r h
  | _ =>
    intro fr H r h
    simp only [evalC] at h ⊢
    first | exact h | cases h
theorem evalF_mono {prim : CallF} : ∀ (n m : Nat), n ≤ m → LeC (evalF P prim n) (evalF P prim m)
  | 0, _, _ => fun _ _ _ _ h => by cases h
  | n + 1, m, hm => by
    obtain ⟨m, rfl⟩ : ∃ k, m = k + 1 := ⟨m - 1, by omega⟩
    intro f a H r h
    simp only [evalF] at h ⊢
    cases hp : prim f a H with
    | some x => rw [hp] at h; exact h
    | none =>
      rw [hp] at h
      simp only at h ⊢
      cases hf : P.funcs[f]? with
      | none => rw [hf] at h; cases h
      | some fn =>
        rw [hf] at h
        simp only at h ⊢
        cases hb : fn.body with
        | none => rw [hb] at h; cases h
        | some c =>
          rw [hb] at h
          simp only at h ⊢
          cases hs : evalC P (evalF P prim n) n c (Fr.init fn.ntmps a) H with
          | none => rw [hs] at h; cases h
          | some x => rw [hs] at h; rw [evalC_mono (evalF_mono n m (by omega)) (by omega) _ _ _ _ hs]; exact h
theorem calls_of_eval {prim : CallF} {f : FuncId} {args : Array Value} {H H' : Heap} {v : Value} {R : Value → Heap → Prop} (n : Nat) (h : evalF P prim n f args H = some (v, H')) (hR : R v H') : CallsA P prim f args H R :=
  ⟨v, H', hR, n, fun m hm => evalF_mono n m hm _ _ _ _ h⟩
/-- A closed run that ends true. -/
def endsTrue : Option (Value × Heap) → Bool
  | some (.bool true, _) => true
  | _ => false
theorem calls_of_true {prim : CallF} {f : FuncId} {args : Array Value} {H : Heap} (n : Nat) (h : endsTrue (evalF P prim n f args H) = true) : CallsA P prim f args H fun v _ => v = .bool true := by
  cases he : evalF P prim n f args H with
  | none => rw [he] at h; cases h
  | some r =>
    obtain ⟨v, H'⟩ := r
    refine calls_of_eval n he ?_
    rw [he] at h
    unfold endsTrue at h
    split at h
    · rename_i hh; simp only [Option.some.injEq, Prod.mk.injEq] at hh; exact hh.1
    · cases h
end
end Go.Ab
