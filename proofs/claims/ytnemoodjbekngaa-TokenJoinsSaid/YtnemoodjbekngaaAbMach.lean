/-
  Laws to walk through the abstract machine: what is left to run stands as a list; each law takes one step. Conditions: those of each law.
-/
import Derived.Test.YtnemoodjbekngaaAbRun
namespace Go.Ab

inductive Item where
  | code (c : Code)
  | ops (all : List Oper) (l : List Oper)
  | blk (id : Nat)
  | loop (c : Code) (j : Nat)

/-- What is left, run with so much fuel. -/
def rs (P : Program) (prim : CallF) (n : Nat) : List Item → AExit → Fr → Heap → Out
  | [], x, fr, H => some (x, fr, H)
  | .code c :: k, .normal, fr, H => match evalC P (evalF P prim n) n c fr H with
    | some (y, fr, H) => rs P prim n k y fr H
    | none => none
  | .ops all l :: k, .normal, fr, H => match runOps P (evalF P prim n) all.toArray l fr H with
    | some (fr, H) => rs P prim n k .normal fr H
    | none => none
  | .blk _ :: k, .normal, fr, H => rs P prim n k .normal fr H
  | .loop c j :: k, .normal, fr, H => match iter (fun fr H => evalC P (evalF P prim n) n c fr H) (n - j) fr H with
    | some (y, fr, H) => rs P prim n k y fr H
    | none => none
  | .blk j :: k, .exit id, fr, H => bif Nat.beq id j then rs P prim n k .normal fr H else rs P prim n k (.exit id) fr H
  | _ :: k, .exit id, fr, H => rs P prim n k (.exit id) fr H
  | _ :: k, .ret, fr, H => rs P prim n k .ret fr H

/-- It ends, and so. -/
def M (P : Program) (prim : CallF) (Q : AExit → Fr → Heap → Prop) (k : List Item) (x : AExit) (fr : Fr) (H : Heap) : Prop :=
  ∃ y fr' H', Q y fr' H' ∧ ∃ N, ∀ n, N ≤ n → rs P prim n k x fr H = some (y, fr', H')
/-- A call ends, and so. -/
def CallsA (P : Program) (prim : CallF) (f : FuncId) (args : Array Value) (H : Heap) (R : Value → Heap → Prop) : Prop :=
  ∃ v H', R v H' ∧ ∃ N, ∀ n, N ≤ n → evalF P prim n f args H = some (v, H')

theorem CallsA.mono {P : Program} {prim : CallF} {f : FuncId} {args : Array Value} {H : Heap} {R R' : Value → Heap → Prop} (h : CallsA P prim f args H R) (hr : ∀ v H', R v H' → R' v H') : CallsA P prim f args H R' :=
  let ⟨v, H', a, b⟩ := h; ⟨v, H', hr _ _ a, b⟩

section
variable {P : Program} {prim : CallF} {Q : AExit → Fr → Heap → Prop} {k : List Item} {fr : Fr} {H : Heap}

theorem M_iff {k k' : List Item} {x x' : AExit} {fr fr' : Fr} {H H' : Heap} (N0 : Nat) (h : ∀ n, N0 ≤ n → rs P prim n k x fr H = rs P prim n k' x' fr' H') : M P prim Q k x fr H = M P prim Q k' x' fr' H' := by
  unfold M
  apply propext
  constructor
  · rintro ⟨y, f, h', hq, N, hN⟩
    exact ⟨y, f, h', hq, N0 + N, fun n hn => by rw [← h n (by omega)]; exact hN n (by omega)⟩
  · rintro ⟨y, f, h', hq, N, hN⟩
    exact ⟨y, f, h', hq, N0 + N, fun n hn => by rw [h n (by omega)]; exact hN n (by omega)⟩

theorem M_end {x : AExit} : M P prim Q [] x fr H = Q x fr H := by
  apply propext
  constructor
  · rintro ⟨y, f, h', hq, N, hN⟩
    have := hN N (Nat.le_refl _)
    simp only [rs, Option.some.injEq, Prod.mk.injEq] at this
    obtain ⟨rfl, rfl, rfl⟩ := this
    exact hq
  · intro h
    exact ⟨x, fr, H, h, 0, fun n _ => rfl⟩
theorem M_skip : M P prim Q (.code .skip :: k) .normal fr H = M P prim Q k .normal fr H := M_iff 0 fun _ _ => rfl
theorem M_label {l : Nat} : M P prim Q (.code (.label l) :: k) .normal fr H = M P prim Q k .normal fr H := M_iff 0 fun _ _ => rfl
theorem M_exit {id : Nat} : M P prim Q (.code (.exit id) :: k) .normal fr H = M P prim Q k (.exit id) fr H := M_iff 0 fun _ _ => rfl
theorem rs_ret (n : Nat) : ∀ (k : List Item), rs P prim n k .ret fr H = some (.ret, fr, H)
  | [] => rfl
  | .code _ :: k => rs_ret n k
  | .ops _ _ :: k => rs_ret n k
  | .blk _ :: k => rs_ret n k
  | .loop _ _ :: k => rs_ret n k
theorem M_ret : M P prim Q (.code .ret :: k) .normal fr H = Q .ret fr H := by
  refine Eq.trans ?_ (M_end (P := P) (prim := prim) (Q := Q) (x := .ret) (fr := fr) (H := H))
  exact M_iff 0 fun n _ => by show rs P prim n k .ret fr H = _; rw [rs_ret]; rfl
theorem M_seq {a b : Code} : M P prim Q (.code (.seq a b) :: k) .normal fr H = M P prim Q (.code a :: .code b :: k) .normal fr H := by
  refine M_iff 0 fun n _ => ?_
  simp only [rs, evalC]
  cases evalC P (evalF P prim n) n a fr H with
  | none => rfl
  | some r =>
    obtain ⟨y, fr1, H1⟩ := r
    cases y <;> simp only [rs]
/-- The arm that is taken. -/
def MCond (P : Program) (prim : CallF) (Q : AExit → Fr → Heap → Prop) (v : Value) (t e : Code) (k : List Item) (fr : Fr) (H : Heap) : Prop :=
  match v with
  | .bool true => M P prim Q (.code t :: k) .normal fr H
  | .bool false => M P prim Q (.code e :: k) .normal fr H
  | _ => False
theorem M_cond {c : Operand} {t e : Code} : M P prim Q (.code (.cond c t e) :: k) .normal fr H = MCond P prim Q (fr.eval c) t e k fr H := by
  have key : ∀ b, fr.eval c = .bool b → M P prim Q (.code (.cond c t e) :: k) .normal fr H = M P prim Q (.code (cond b t e) :: k) .normal fr H := by
    intro b hb
    refine M_iff 0 fun n _ => ?_
    simp only [rs, evalC, hb]
    cases b <;> rfl
  have no : (∀ b, fr.eval c ≠ .bool b) → M P prim Q (.code (.cond c t e) :: k) .normal fr H = False := by
    intro hb
    apply propext
    refine ⟨?_, False.elim⟩
    rintro ⟨y, f, h', hq, N, hN⟩
    have := hN N (Nat.le_refl _)
    cases hv : fr.eval c with
    | bool b => exact hb b hv
    | _ => simp only [rs, evalC, hv] at this; cases this
  cases hv : fr.eval c with
  | bool b => rw [key b hv]; cases b <;> rfl
  | _ => rw [no (by rw [hv]; intro b; exact fun h => by cases h)]; rfl
theorem MCond_true {t e : Code} : MCond P prim Q (.bool true) t e k fr H = M P prim Q (.code t :: k) .normal fr H := rfl
theorem MCond_false {t e : Code} : MCond P prim Q (.bool false) t e k fr H = M P prim Q (.code e :: k) .normal fr H := rfl
theorem M_block {id : Nat} {c : Code} : M P prim Q (.code (.block id c) :: k) .normal fr H = M P prim Q (.code c :: .blk id :: k) .normal fr H := by
  refine M_iff 0 fun n _ => ?_
  simp only [rs, evalC]
  cases evalC P (evalF P prim n) n c fr H with
  | none => rfl
  | some r =>
    obtain ⟨y, fr1, H1⟩ := r
    cases y with
    | normal => rfl
    | ret => rfl
    | exit j =>
      simp only [rs]
      by_cases hj : j = id
      · subst hj; rw [Nat.beq_refl]; rfl
      · rw [Tr.nbeq_ne hj]; rfl
theorem M_blk {id : Nat} : M P prim Q (.blk id :: k) .normal fr H = M P prim Q k .normal fr H := M_iff 0 fun _ _ => rfl
theorem M_out_blk {id : Nat} : M P prim Q (.blk id :: k) (.exit id) fr H = M P prim Q k .normal fr H := M_iff 0 fun n _ => by simp only [rs]; rw [Nat.beq_refl]; rfl
theorem M_out_other {id j : Nat} (h : j ≠ id) : M P prim Q (.blk id :: k) (.exit j) fr H = M P prim Q k (.exit j) fr H := M_iff 0 fun n _ => by simp only [rs]; rw [Tr.nbeq_ne h]; rfl
theorem M_out_code {j : Nat} {c : Code} : M P prim Q (.code c :: k) (.exit j) fr H = M P prim Q k (.exit j) fr H := M_iff 0 fun _ _ => rfl
theorem M_out_loop {j m : Nat} {c : Code} : M P prim Q (.loop c m :: k) (.exit j) fr H = M P prim Q k (.exit j) fr H := M_iff 0 fun _ _ => rfl
theorem M_loop {c : Code} : M P prim Q (.code (.loop c) :: k) .normal fr H = M P prim Q (.loop c 0 :: k) .normal fr H := M_iff 0 fun _ _ => rfl
theorem M_round {c : Code} {j : Nat} : M P prim Q (.loop c j :: k) .normal fr H = M P prim Q (.code c :: .loop c (j + 1) :: k) .normal fr H := by
  refine M_iff (j + 1) fun n hn => ?_
  simp only [rs]
  rw [show n - j = (n - (j + 1)) + 1 by omega]
  simp only [iter]
  cases evalC P (evalF P prim n) n c fr H with
  | none => rfl
  | some r =>
    obtain ⟨y, fr1, H1⟩ := r
    cases y <;> simp only [rs]
/-- A loop: what holds ahead of each round, with a number that falls. -/
theorem M_rounds {c : Code} (I : Nat → Fr → Heap → Prop) (d : Nat) (h0 : I d fr H)
    (step : ∀ d j fr H, I d fr H → (∀ d' fr' H', d' < d → I d' fr' H' → M P prim Q (.loop c (j + 1) :: k) .normal fr' H') → M P prim Q (.code c :: .loop c (j + 1) :: k) .normal fr H) :
    M P prim Q (.loop c 0 :: k) .normal fr H := by
  have key : ∀ n d, d < n → ∀ j fr H, I d fr H → M P prim Q (.loop c j :: k) .normal fr H := by
    intro n
    induction n with
    | zero => intro d hd; omega
    | succ n ih =>
      intro d hd j fr H hI
      rw [M_round]
      exact step d j fr H hI fun d' fr' H' hd' hI' => ih d' (by omega) (j + 1) fr' H' hI'
  exact key (d + 1) d (by omega) 0 fr H h0
theorem M_region {id : Nat} {l : List Oper} : M P prim Q (.code (.region id l.toArray false) :: k) .normal fr H = M P prim Q (.ops l l :: k) .normal fr H := by
  refine M_iff 0 fun n _ => ?_
  simp only [rs, evalC, cond_false]
  cases runOps P (evalF P prim n) l.toArray l fr H with
  | none => rfl
  | some r => rfl
theorem M_ops_nil {all : List Oper} : M P prim Q (.ops all [] :: k) .normal fr H = M P prim Q k .normal fr H := M_iff 0 fun _ _ => rfl

/-- An operation has come to this. -/
def MS (P : Program) (prim : CallF) (Q : AExit → Fr → Heap → Prop) (r : Option ARes) (dst : Option Tmp) (all l : List Oper) (k : List Item) (fr : Fr) : Prop :=
  match r with
  | some (.val v H) => M P prim Q (.ops all l :: k) .normal (fr.put dst v) H
  | _ => False
def MCall (P : Program) (prim : CallF) (Q : AExit → Fr → Heap → Prop) (f : FuncId) (args : Array Value) (H : Heap) (dst : Option Tmp) (all l : List Oper) (k : List Item) (fr : Fr) : Prop :=
  CallsA P prim f args H fun v H' => M P prim Q (.ops all l :: k) .normal (fr.put dst v) H'
theorem M_step {o : Oper} {all l : List Oper} {v : Value} {H' : Heap} (hw : Region.wanted o (yieldedA all.toArray fr) = true) (h : evalOp P fr.eval o H = some (.val v H')) :
    M P prim Q (.ops all (o :: l) :: k) .normal fr H = M P prim Q (.ops all l :: k) .normal (fr.put o.dst v) H' := by
  refine M_iff 0 fun n _ => ?_
  simp only [rs, runOps, hw, cond_true, stepOp, h]
theorem M_unwanted {o : Oper} {all l : List Oper} (hw : Region.wanted o (yieldedA all.toArray fr) = false) :
    M P prim Q (.ops all (o :: l) :: k) .normal fr H = M P prim Q (.ops all l :: k) .normal (fr.put o.dst undef) H := by
  refine M_iff 0 fun n _ => ?_
  simp only [rs, runOps, hw, cond_false]
theorem M_calls {o : Oper} {all l : List Oper} {f : FuncId} {args : Array Value} (hw : Region.wanted o (yieldedA all.toArray fr) = true) (h : evalOp P fr.eval o H = some (.call f args))
    (hc : CallsA P prim f args H fun v H' => M P prim Q (.ops all l :: k) .normal (fr.put o.dst v) H') : M P prim Q (.ops all (o :: l) :: k) .normal fr H := by
  obtain ⟨v, H1, ⟨y, fr', H', hq, N1, h1⟩, N2, h2⟩ := hc
  refine ⟨y, fr', H', hq, N1 + N2, fun n hn => ?_⟩
  have h1 := h1 n (by omega)
  have h2 := h2 n (by omega)
  simp only [rs] at h1
  simp only [rs, runOps, hw, cond_true, stepOp, h, h2]
  exact h1
/-- What an operation yields. -/
def stepA (P : Program) (prim : CallF) (n : Nat) (r : Option ARes) (H : Heap) : Option (Value × Heap) :=
  match r with
  | some (.val v H) => some (v, H)
  | some (.call f args) => evalF P prim n f args H
  | none => none
/-- An operation that is to run: what it comes to, and then. -/
def MX (P : Program) (prim : CallF) (Q : AExit → Fr → Heap → Prop) (r : Option ARes) (dst : Option Tmp) (all l : List Oper) (k : List Item) (fr : Fr) (H : Heap) : Prop :=
  ∃ y fr' H', Q y fr' H' ∧ ∃ N, ∀ n, N ≤ n → (match stepA P prim n r H with
    | some (v, H1) => rs P prim n (.ops all l :: k) .normal (fr.put dst v) H1
    | none => none) = some (y, fr', H')
theorem M_op {dst : Option Tmp} {op : Op} {t : TypeId} {pos : String} {af : Array Edge} {all l : List Oper} :
    M P prim Q (.ops all (⟨dst, op, t, pos, af, none⟩ :: l) :: k) .normal fr H = MX P prim Q (evalOp P fr.eval ⟨dst, op, t, pos, af, none⟩ H) dst all l k fr H := by
  have hk : ∀ n, rs P prim n (.ops all (⟨dst, op, t, pos, af, none⟩ :: l) :: k) .normal fr H = (match stepA P prim n (evalOp P fr.eval ⟨dst, op, t, pos, af, none⟩ H) H with
      | some (v, H1) => rs P prim n (.ops all l :: k) .normal (fr.put dst v) H1
      | none => none) := by
    intro n
    have hw : Region.wanted (⟨dst, op, t, pos, af, none⟩ : Oper) (yieldedA all.toArray fr) = true := rfl
    simp only [rs, runOps, hw, cond_true, stepOp, stepA]
    cases evalOp P fr.eval ⟨dst, op, t, pos, af, none⟩ H with
    | none => rfl
    | some r =>
      cases r with
      | val v H1 => rfl
      | call f args =>
        simp only
        cases evalF P prim n f args H with
        | none => rfl
        | some r => rfl
  unfold M MX
  simp only [hk]
/-- An operation under a guard. -/
def MG (P : Program) (prim : CallF) (Q : AExit → Fr → Heap → Prop) (y : Option Bool) (b : Bool) (o : Oper) (all l : List Oper) (k : List Item) (fr : Fr) (H : Heap) : Prop :=
  if y = some b then MX P prim Q (evalOp P fr.eval o H) o.dst all l k fr H else M P prim Q (.ops all l :: k) .normal (fr.put o.dst undef) H
/-- What operation j has yielded. -/
def yv (d : Option Tmp) (fr : Fr) : Option Bool := match d with | some t => (match fr.get t with | .bool b => some b | _ => none) | none => none
theorem M_opg {dst : Option Tmp} {op : Op} {t : TypeId} {pos : String} {af : Array Edge} {j : Nat} {b : Bool} {all l : List Oper} :
    M P prim Q (.ops all (⟨dst, op, t, pos, af, some (j, b)⟩ :: l) :: k) .normal fr H = MG P prim Q (yv ((all[j]?).bind (·.dst)) fr) b ⟨dst, op, t, pos, af, none⟩ all l k fr H := by
  have hy : yieldedA all.toArray fr j = yv ((all[j]?).bind (·.dst)) fr := by
    unfold yieldedA yv
    rw [List.getElem?_toArray]
    rfl
  have hev : evalOp P fr.eval ⟨dst, op, t, pos, af, some (j, b)⟩ H = evalOp P fr.eval ⟨dst, op, t, pos, af, none⟩ H := rfl
  unfold MG
  by_cases h : yv ((all[j]?).bind (·.dst)) fr = some b
  · rw [if_pos h, ← M_op]
    refine M_iff 0 fun n _ => ?_
    have hw : Region.wanted (⟨dst, op, t, pos, af, some (j, b)⟩ : Oper) (yieldedA all.toArray fr) = true := by
      simp [Region.wanted, hy, h]
    have hw' : Region.wanted (⟨dst, op, t, pos, af, none⟩ : Oper) (yieldedA all.toArray fr) = true := rfl
    simp only [rs, runOps, hw, hw', cond_true, stepOp, hev]
  · rw [if_neg h]
    refine M_unwanted ?_
    simp [Region.wanted, hy, h]
theorem MG_on {b : Bool} {o : Oper} {all l : List Oper} : MG P prim Q (some b) b o all l k fr H = MX P prim Q (evalOp P fr.eval o H) o.dst all l k fr H := if_pos rfl
theorem MG_off {b b' : Bool} {o : Oper} {all l : List Oper} (h : b' ≠ b) : MG P prim Q (some b') b o all l k fr H = M P prim Q (.ops all l :: k) .normal (fr.put o.dst undef) H := if_neg (by simp [h])
theorem MG_tf {o : Oper} {all l : List Oper} : MG P prim Q (some true) false o all l k fr H = M P prim Q (.ops all l :: k) .normal (fr.put o.dst undef) H := MG_off (by decide)
theorem MG_ft {o : Oper} {all l : List Oper} : MG P prim Q (some false) true o all l k fr H = M P prim Q (.ops all l :: k) .normal (fr.put o.dst undef) H := MG_off (by decide)
theorem MG_none {b : Bool} {o : Oper} {all l : List Oper} : MG P prim Q none b o all l k fr H = M P prim Q (.ops all l :: k) .normal (fr.put o.dst undef) H := if_neg (by simp)
theorem MX_val {v : Value} {H' : Heap} {dst : Option Tmp} {all l : List Oper} : MX P prim Q (some (.val v H')) dst all l k fr H = M P prim Q (.ops all l :: k) .normal (fr.put dst v) H' := rfl
theorem MX_call {f : FuncId} {args : Array Value} {dst : Option Tmp} {all l : List Oper} {R : Value → Heap → Prop} (hc : CallsA P prim f args H R)
    (h : ∀ v H', R v H' → M P prim Q (.ops all l :: k) .normal (fr.put dst v) H') : MX P prim Q (some (.call f args)) dst all l k fr H := by
  obtain ⟨v, H1, hr, N2, h2⟩ := hc
  obtain ⟨y, fr', H', hq, N1, h1⟩ := h v H1 hr
  refine ⟨y, fr', H', hq, N1 + N2, fun n hn => ?_⟩
  simp only [stepA, h2 n (by omega)]
  exact h1 n (by omega)

/-! ### A call -/
def MQ (P : Program) (rs : List ResultVar) (R : Value → Heap → Prop) (x : AExit) (fr : Fr) (H : Heap) : Prop :=
  (∀ id, x ≠ .exit id) ∧ ∃ vs, resultsA P fr H rs = some vs ∧ R (tupled vs) H
theorem calls_enter {f : FuncId} {args : Array Value} {R : Value → Heap → Prop} {fn : Func} {c : Code} (hp : prim f args H = none) (hf : P.funcs[f]? = some fn) (hb : fn.body = some c)
    (h : M P prim (MQ P fn.results.toList R) [.code c] .normal (Fr.init fn.ntmps args) H) : CallsA P prim f args H R := by
  obtain ⟨y, fr', H', ⟨hx, vs, hv, hR⟩, N, hN⟩ := h
  refine ⟨tupled vs, H', hR, N + 1, fun n hn => ?_⟩
  obtain ⟨m, rfl⟩ : ∃ m, n = m + 1 := ⟨n - 1, by omega⟩
  have := hN m (by omega)
  simp only [rs] at this
  simp only [evalF, hp, hf, hb]
  cases he : evalC P (evalF P prim m) m c (Fr.init fn.ntmps args) H with
  | none => rw [he] at this; cases this
  | some r =>
    obtain ⟨z, fr1, H1⟩ := r
    rw [he] at this
    simp only [Option.some.injEq, Prod.mk.injEq] at this
    obtain ⟨rfl, rfl, rfl⟩ := this
    cases z with
    | exit id => exact absurd rfl (hx id)
    | normal => simp only [hv, Option.map_some]
    | ret => simp only [hv, Option.map_some]
theorem calls_prim {f : FuncId} {args : Array Value} {R : Value → Heap → Prop} {v : Value} {H' : Heap} (hp : prim f args H = some (v, H')) (h : R v H') : CallsA P prim f args H R :=
  ⟨v, H', h, 1, fun n hn => by
    obtain ⟨m, rfl⟩ : ∃ m, n = m + 1 := ⟨n - 1, by omega⟩
    simp only [evalF, hp]⟩
end

/-! ### What operations come to, by their operands' values -/
section
variable {P : Program} {ρ : Operand → Value} {H : Heap} {d : Option Tmp} {ty : TypeId} {pos : String} {af : Array Edge} {g : Option (Nat × Bool)}
theorem ev_move {x : Operand} : evalOp P ρ ⟨d, .move x, ty, pos, af, g⟩ H = some (.val (ρ x) H) := rfl
theorem ev_assign {x : Operand} : evalOp P ρ ⟨d, .assign x, ty, pos, af, g⟩ H = some (.val (ρ x) H) := rfl
def evPick (c a b : Value) (H : Heap) : Option ARes := match c with | .bool t => some (.val (bif t then a else b) H) | _ => none
theorem ev_pick {c a b : Operand} : evalOp P ρ ⟨d, .pick c a b, ty, pos, af, g⟩ H = evPick (ρ c) (ρ a) (ρ b) H := rfl
theorem evPick_true {a b : Value} : evPick (.bool true) a b H = some (.val a H) := rfl
theorem evPick_false {a b : Value} : evPick (.bool false) a b H = some (.val b H) := rfl
def evO (r : Option Value) (H : Heap) : Option ARes := r.map fun v => .val v H
theorem evO_some {v : Value} : evO (some v) H = some (.val v H) := rfl
def evH (r : Option (Value × Heap)) : Option ARes := r.map fun x => .val x.1 x.2
theorem evH_some {v : Value} {H' : Heap} : evH (some (v, H')) = some (.val v H') := rfl
theorem ev_load {t : TypeId} {a : Operand} : evalOp P ρ ⟨d, .load t a, ty, pos, af, g⟩ H = evO (loadA P t (ρ a) H) H := rfl
theorem ev_store {t : TypeId} {a x : Operand} : evalOp P ρ ⟨d, .store t a x, ty, pos, af, g⟩ H = evH ((storeA P t (ρ a) (ρ x) H).map fun H => (undef, H)) := by
  simp only [evalOp, evH, Option.map_map]; rfl
theorem ev_nilCheck {x : Operand} : evalOp P ρ ⟨d, .nilCheck x, ty, pos, af, g⟩ H = evO (nilCheckA (ρ x)) H := rfl
theorem ev_alloc {t : TypeId} : evalOp P ρ ⟨d, .alloc t, ty, pos, af, g⟩ H = evH ((zeroOf P t).map fun z => (ptrTo H, H.push (.row (.rw 0) z))) := by
  simp only [evalOp, evH, Option.map_map]; rfl
theorem ev_box {t : TypeId} {x : Operand} : evalOp P ρ ⟨d, .box t x, ty, pos, af, g⟩ H = some (.val (ptrTo H) (H.push (.row (.rw 0) (ρ x).cells.toList))) := rfl
theorem ev_build {t : TypeId} {ps : Array (Nat × Operand)} : evalOp P ρ ⟨d, .build t ps, ty, pos, af, g⟩ H = evO (buildA P t (ps.toList.map fun (i, x) => (i, ρ x))) H := rfl
theorem ev_buildSlice {t : TypeId} {n : Nat} {ps : Array (Nat × Operand)} : evalOp P ρ ⟨d, .buildSlice t n ps, ty, pos, af, g⟩ H = evH (buildSliceA P t n (ps.toList.map fun (i, x) => (i, ρ x)) H) := rfl
theorem ev_makeSlice {t : TypeId} {l c : Operand} : evalOp P ρ ⟨d, .makeSlice t l c, ty, pos, af, g⟩ H = evH (makeSliceA P t (ρ l) (ρ c) H) := rfl
theorem ev_fieldAddr {s : TypeId} {x : Operand} {f : Nat} : evalOp P ρ ⟨d, .fieldAddr s x f, ty, pos, af, g⟩ H = evO (fieldAddrA P s (ρ x) f) H := rfl
theorem ev_field {s : TypeId} {x : Operand} {f : Nat} : evalOp P ρ ⟨d, .field s x f, ty, pos, af, g⟩ H = evO (fieldA P s (ρ x) f) H := rfl
theorem ev_indexAddr {t : TypeId} {x i : Operand} : evalOp P ρ ⟨d, .indexAddr t x i, ty, pos, af, g⟩ H = evO (indexAddrA P t (ρ x) (ρ i)) H := rfl
def evIndex (P : Program) (t : TypeId) (x i : Value) (H : Heap) : Option ARes := match strIndexA P t x i with | some v => some (.val v H) | none => (indexA P t x i).map fun v => .val v H
theorem ev_index {t : TypeId} {x i : Operand} : evalOp P ρ ⟨d, .index t x i, ty, pos, af, g⟩ H = evIndex P t (ρ x) (ρ i) H := rfl
def evSlice (P : Program) (t : TypeId) (x : Value) (lo hi mx : Option Value) (H : Heap) : Option ARes := match strSliceA P t x lo hi mx with | some v => some (.val v H) | none => (sliceA P t x lo hi mx H).map fun v => .val v H
theorem ev_slice {t : TypeId} {x : Operand} {lo hi mx : Option Operand} : evalOp P ρ ⟨d, .slice t x lo hi mx, ty, pos, af, g⟩ H = evSlice P t (ρ x) (lo.map ρ) (hi.map ρ) (mx.map ρ) H := rfl
def evIface (P : Program) (t : TypeId) (x : Value) (H : Heap) : Option ARes := match P.underlying t with | some (.interface _) => none | some _ => some (.val (.iface t x) H) | none => none
theorem ev_makeInterface {t : TypeId} {x : Operand} : evalOp P ρ ⟨d, .makeInterface t x, ty, pos, af, g⟩ H = evIface P t (ρ x) H := rfl
theorem ev_makeFunc {fn : Fn} {a b : Array Operand} : evalOp P ρ ⟨d, .makeFunc fn a b, ty, pos, af, g⟩ H = some (.val (.func fn (a.map ρ) (b.map ρ)) H) := rfl
def evExtract (t : Value) (i : Nat) (H : Heap) : Option ARes := match t with | .tuple vs => vs[i]?.map fun v => .val v H | _ => none
theorem ev_extract {t : Operand} {i : Nat} : evalOp P ρ ⟨d, .extract t i, ty, pos, af, g⟩ H = evExtract (ρ t) i H := rfl
theorem evExtract_tuple {vs : List Value} {i : Nat} : evExtract (.tuple vs.toArray) i H = evO vs[i]? H := by simp [evExtract, evO]
end
end Go.Ab
