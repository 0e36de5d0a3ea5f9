/-
  What operations on numbers, texts and calls come to, by their operands' values. Conditions: those of each law.
-/
import Derived.Test.YtnemoodjbekngaaAbMach
namespace Go.Ab

section
variable {P : Program} {ρ : Operand → Value} {H : Heap} {d : Option Tmp} {ty : TypeId} {pos : String} {af : Array Edge} {g : Option (Nat × Bool)}

/-! ### Frames -/
theorem eval_tmp {fr : Fr} {t : Tmp} : fr.eval (.tmp t) = fr.get t := rfl
theorem eval_const {fr : Fr} {v : Value} : fr.eval (.const v) = v := rfl
theorem eval_func {fr : Fr} {f : FuncId} : fr.eval (.func f) = .func (.func f) #[] #[] := rfl
theorem eval_global {fr : Fr} {x : Nat} : fr.eval (.global x) = .pointer (some ⟨x, 0, none⟩) := rfl
theorem put_none {fr : Fr} {v : Value} : fr.put none v = fr := rfl
theorem put_some {fr : Fr} {t : Tmp} {v : Value} : fr.put (some t) v = fr.set t v := rfl
theorem get_put_eq {fr : Fr} {t : Tmp} {v : Value} (h : t < fr.n) : (fr.set t v).get t = v := by rw [Fr.get_set, if_pos ⟨rfl, h⟩]
theorem get_put_ne {fr : Fr} {t u : Tmp} {v : Value} (h : u ≠ t) : (fr.set t v).get u = fr.get u := by rw [Fr.get_set, if_neg (fun hh => h hh.1)]
theorem init_get {n : Nat} {args : List Value} {i : Nat} (h : i < args.length) : (Fr.init n args.toArray).get i = args[i] := by
  unfold Fr.init
  rw [Fr.get_mk, setAll_get]
  simp only [Nat.zero_le, true_and, Nat.zero_add, Nat.sub_zero, List.size_toArray]
  rw [if_pos (by omega), if_pos h]
  simp [h]
theorem init_n {n : Nat} {args : Array Value} (h : args.size ≤ n) : (Fr.init n args).n = n := by unfold Fr.init; show args.size + (n - args.size) = n; omega

/-! ### Numbers -/
def iand (k : IntKind) (a b : Int) : Int := k.wrap ((BitVec.ofInt k.bits a &&& BitVec.ofInt k.bits b).toNat : Int)
def ior (k : IntKind) (a b : Int) : Int := k.wrap ((BitVec.ofInt k.bits a ||| BitVec.ofInt k.bits b).toNat : Int)
def ixor (k : IntKind) (a b : Int) : Int := k.wrap ((BitVec.ofInt k.bits a ^^^ BitVec.ofInt k.bits b).toNat : Int)
def iandNot (k : IntKind) (a b : Int) : Int := k.wrap ((BitVec.ofInt k.bits a &&& ~~~BitVec.ofInt k.bits b).toNat : Int)
def ishl (k : IntKind) (a b : Int) : Int := k.wrap (a * 2 ^ (min b.toNat k.bits))
def ishr (k : IntKind) (a b : Int) : Int := a.fdiv (2 ^ (min b.toNat k.bits))
def flatBin (P : Program) (op : BinOp) (t : TypeId) (x y : Operand) (vx vy : Value) (H : Heap) : Option ARes :=
  bif flat vx && (flat vy && true) then
    match still P (do let r ← (do eqGuard op t x y vx vy; binOp op t vx vy); pure (Next.value r) : Sem Next) with
    | some (.value v) => bif flat v then some (.val v H) else none
    | _ => none
  else none
def evBin (P : Program) (op : BinOp) (t : TypeId) (x y : Operand) (vx vy : Value) (H : Heap) : Option ARes :=
  match strA op vx vy with
  | some v => some (.val v H)
  | none => match op with
    | .eql => match (eqNil P t vx vy).map Value.bool with
      | some v => some (.val v H)
      | none => flatBin P op t x y vx vy H
    | .neq => match (eqNil P t vx vy).map (fun b => Value.bool !b) with
      | some v => some (.val v H)
      | none => flatBin P op t x y vx vy H
    | _ => flatBin P op t x y vx vy H
theorem ev_bin {op : BinOp} {t yt : TypeId} {x y : Operand} : evalOp P ρ ⟨d, .binOp op t x y yt, ty, pos, af, g⟩ H = evBin P op t x y (ρ x) (ρ y) H := by
  cases op <;> rfl
variable {t : TypeId} {x y : Operand} {k : IntKind} {a b : Int}
theorem int_kk {α : Type} (k : IntKind) (p q : α) : (if k ≠ k then p else q) = q := if_neg (fun h => h rfl)
theorem bin_add : evBin P .add t x y (.int k a) (.int k b) H = some (.val (.int k (k.wrap (a + b))) H) := by
  simp [evBin, strA, flatBin, flat, eqGuard, binOp, Op.intArith]; rfl
theorem bin_sub : evBin P .sub t x y (.int k a) (.int k b) H = some (.val (.int k (k.wrap (a - b))) H) := by
  simp [evBin, strA, flatBin, flat, eqGuard, binOp, Op.intArith]; rfl
theorem bin_mul : evBin P .mul t x y (.int k a) (.int k b) H = some (.val (.int k (k.wrap (a * b))) H) := by
  simp [evBin, strA, flatBin, flat, eqGuard, binOp, Op.intArith]; rfl
theorem bin_eql : evBin P .eql t x y (.int k a) (.int k b) H = some (.val (.bool (decide (a = b))) H) := by
  have h : eqNil P t (.int k a) (.int k b) = none := by unfold eqNil; split <;> simp_all
  simp [evBin, strA, h, flatBin, flat, eqGuard, binOp, Op.intCmp]; rfl
theorem bin_neq : evBin P .neq t x y (.int k a) (.int k b) H = some (.val (.bool (!decide (a = b))) H) := by
  have h : eqNil P t (.int k a) (.int k b) = none := by unfold eqNil; split <;> simp_all
  simp [evBin, strA, h, flatBin, flat, eqGuard, binOp, Op.intCmp]; rfl
theorem bin_lss : evBin P .lss t x y (.int k a) (.int k b) H = some (.val (.bool (decide (a < b))) H) := by
  simp [evBin, strA, flatBin, flat, eqGuard, binOp, Op.intCmp]; rfl
theorem bin_leq : evBin P .leq t x y (.int k a) (.int k b) H = some (.val (.bool (decide (a ≤ b))) H) := by
  simp [evBin, strA, flatBin, flat, eqGuard, binOp, Op.intCmp]; rfl
theorem bin_gtr : evBin P .gtr t x y (.int k a) (.int k b) H = some (.val (.bool (decide (a > b))) H) := by
  simp [evBin, strA, flatBin, flat, eqGuard, binOp, Op.intCmp]; rfl
theorem bin_geq : evBin P .geq t x y (.int k a) (.int k b) H = some (.val (.bool (decide (a ≥ b))) H) := by
  simp [evBin, strA, flatBin, flat, eqGuard, binOp, Op.intCmp]; rfl
theorem bin_and : evBin P .and t x y (.int k a) (.int k b) H = some (.val (.int k (iand k a b)) H) := by
  unfold iand; simp [evBin, strA, flatBin, flat, eqGuard, binOp, Op.intBits]; rfl
theorem bin_or : evBin P .or t x y (.int k a) (.int k b) H = some (.val (.int k (ior k a b)) H) := by
  unfold ior; simp [evBin, strA, flatBin, flat, eqGuard, binOp, Op.intBits]; rfl
theorem bin_xor : evBin P .xor t x y (.int k a) (.int k b) H = some (.val (.int k (ixor k a b)) H) := by
  unfold ixor; simp [evBin, strA, flatBin, flat, eqGuard, binOp, Op.intBits]; rfl
theorem bin_andNot : evBin P .andNot t x y (.int k a) (.int k b) H = some (.val (.int k (iandNot k a b)) H) := by
  unfold iandNot; simp [evBin, strA, flatBin, flat, eqGuard, binOp, Op.intBits]; rfl
theorem bin_quo (h : b ≠ 0) : evBin P .quo t x y (.int k a) (.int k b) H = some (.val (.int k (k.wrap (a.tdiv b))) H) := by
  simp [evBin, strA, flatBin, flat, eqGuard, binOp, Op.intDiv, h]; rfl
theorem bin_rem (h : b ≠ 0) : evBin P .rem t x y (.int k a) (.int k b) H = some (.val (.int k (a.tmod b)) H) := by
  simp [evBin, strA, flatBin, flat, eqGuard, binOp, Op.intDiv, h]; rfl
theorem bin_shl {k' : IntKind} (h : 0 ≤ b) : evBin P .shl t x y (.int k a) (.int k' b) H = some (.val (.int k (ishl k a b)) H) := by
  unfold ishl; simp [evBin, strA, flatBin, flat, eqGuard, binOp, Op.shift, Int.not_lt.2 h]; rfl
theorem bin_shr {k' : IntKind} (h : 0 ≤ b) : evBin P .shr t x y (.int k a) (.int k' b) H = some (.val (.int k (ishr k a b)) H) := by
  unfold ishr; simp [evBin, strA, flatBin, flat, eqGuard, binOp, Op.shift, Int.not_lt.2 h]; rfl
/-! Texts. -/
theorem eqS_dec {a b : ByteArray} : eqL a.data.toList b.data.toList = decide (a = b) := by
  rw [eqL_eq, Bool.eq_iff_iff]
  simp [ByteArray.ext_iff]
theorem bin_cat {a b : ByteArray} (h : ((a.size + b.size : Nat) : Int) ≤ 9223372036854775807) : evBin P .add t x y (.string a) (.string b) H = some (.val (.string (catB a b)) H) := by
  simp only [evBin, strA, if_pos h]
theorem bin_seq {a b : ByteArray} : evBin P .eql t x y (.string a) (.string b) H = some (.val (.bool (decide (a = b))) H) := by
  rw [← eqS_dec]; rfl
theorem bin_sne {a b : ByteArray} : evBin P .neq t x y (.string a) (.string b) H = some (.val (.bool (!decide (a = b))) H) := by
  rw [← eqS_dec]; rfl
theorem bin_slt {a b : ByteArray} : evBin P .lss t x y (.string a) (.string b) H = some (.val (.bool (ltL a.data.toList b.data.toList)) H) := rfl
theorem bin_sgt {a b : ByteArray} : evBin P .gtr t x y (.string a) (.string b) H = some (.val (.bool (!(ltL a.data.toList b.data.toList || eqL a.data.toList b.data.toList))) H) := rfl
/-! Against nil. -/
theorem bin_eqn {vx vy : Value} {c : Bool} (h : eqNil P t vx vy = some c) (hs : ∀ op, strA op vx vy = none) : evBin P .eql t x y vx vy H = some (.val (.bool c) H) := by
  simp only [evBin, hs, h]; rfl
theorem bin_nen {vx vy : Value} {c : Bool} (h : eqNil P t vx vy = some c) (hs : ∀ op, strA op vx vy = none) : evBin P .neq t x y vx vy H = some (.val (.bool (!c)) H) := by
  simp only [evBin, hs, h]; rfl
/-! ### One operand -/
def evUn (P : Program) (op : UnOp) (v : Value) (H : Heap) : Option ARes :=
  bif flat v && true then
    match still P (do let r ← Op.unary op v; pure (Next.value r) : Sem Next) with
    | some (.value v) => bif flat v then some (.val v H) else none
    | _ => none
  else none
theorem ev_un {op : UnOp} : evalOp P ρ ⟨d, .unOp op t x, ty, pos, af, g⟩ H = evUn P op (ρ x) H := rfl
theorem un_not {c : Bool} : evUn P .not (.bool c) H = some (.val (.bool !c) H) := rfl
theorem un_neg : evUn P .neg (.int k a) H = some (.val (.int k (k.wrap (0 - a))) H) := rfl
def evConv (P : Program) (s t : TypeId) (v : Value) (H : Heap) : Option ARes :=
  match convertA P s t v H with
  | some (v, H) => some (.val v H)
  | none => bif flat v && true then
    match still P (do let r ← convert s t v; pure (Next.value r) : Sem Next) with
    | some (.value v) => bif flat v then some (.val v H) else none
    | _ => none
  else none
theorem ev_conv {s : TypeId} : evalOp P ρ ⟨d, .convert s t x, ty, pos, af, g⟩ H = evConv P s t (ρ x) H := rfl
theorem still_underlying {α : Type} {t : TypeId} {u : TypeDesc} (f : TypeDesc → Sem α) (h : P.underlying t = some u) : still P (underlying t >>= f) = still P (f u) := by
  show still P ((match P.underlying t with | some d => pure d | none => stuck _) >>= f) = _
  rw [h]; rfl
theorem conv_int {s : TypeId} {j : IntKind} (h1 : P.underlying s = some (.int k)) (h2 : P.underlying t = some (.int j)) : evConv P s t (.int k a) H = some (.val (.int j (j.wrap a)) H) := by
  have e : convertA P s t (.int k a) H = none := by unfold convertA; simp [h1, h2]
  unfold evConv convert
  rw [e]
  simp only [flat, Bool.and_true, cond_true, bind_assoc, still_underlying _ h1, still_underlying _ h2]
  rfl
/-! ### Calls -/
def evCall (P : Program) (f : Value) (args : Array Value) (rest : Option ARes) : Option ARes :=
  match f with
  | .func (.func g) first captured => bif hasBody P g then some (.call g (first ++ args ++ captured)) else rest
  | _ => none
theorem ev_call {f : Operand} {args : Array Operand} {at_ : Array TypeId} : evalOp P ρ ⟨d, .call ⟨.value f, args, at_⟩, ty, pos, af, g⟩ H = evCall P (ρ f) (args.map ρ) (evalFlat P ρ ⟨d, .call ⟨.value f, args, at_⟩, ty, pos, af, g⟩ H) := rfl
theorem evCall_body {f : FuncId} {first args captured : Array Value} {rest : Option ARes} (h : hasBody P f = true) : evCall P (.func (.func f) first captured) args rest = some (.call f (first ++ args ++ captured)) := by
  simp only [evCall, h, cond_true]
theorem ev_invoke {r : Operand} {name : String} {args : Array Operand} {at_ : Array TypeId} {t : TypeId} {v : Value} {f : FuncId} (hr : ρ r = .iface t v) (hm : methodA P t name = some f) (hb : hasBody P f = true) :
    evalOp P ρ ⟨d, .call ⟨.invoke r name, args, at_⟩, ty, pos, af, g⟩ H = some (.call f (#[v] ++ args.map ρ)) := by
  simp only [evalOp, hr, hm, hb, cond_true]
theorem ev_len {s : Operand} {at_ : Array TypeId} : evalOp P ρ ⟨d, .call ⟨.builtin .len, #[s], at_⟩, ty, pos, af, g⟩ H = evO (lenA P at_ (ρ s) H) H := rfl
theorem ev_append {s v : Operand} {at_ : Array TypeId} : evalOp P ρ ⟨d, .call ⟨.builtin .append, #[s, v], at_⟩, ty, pos, af, g⟩ H = evH (appendA P at_ (ρ s) (ρ v) H) := rfl
theorem ev_copy {s v : Operand} {at_ : Array TypeId} : evalOp P ρ ⟨d, .call ⟨.builtin .copy, #[s, v], at_⟩, ty, pos, af, g⟩ H = evH (copyA P at_ (ρ s) (ρ v) H) := rfl
theorem ev_clear {s : Operand} {at_ : Array TypeId} : evalOp P ρ ⟨d, .call ⟨.builtin .clear, #[s], at_⟩, ty, pos, af, g⟩ H = evH (clearA P at_ (ρ s) H) := rfl
end
end Go.Ab
