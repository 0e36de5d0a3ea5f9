/-
  Entering a function; texts, lengths and cuts by their values. Conditions: those of each law.
-/
import Derived.Test.YtnemoodjbekngaaAbMono
import Derived.IntWalk
namespace Go.Ab

theorem calls_go {P : Program} {prim : CallF} {f : FuncId} {l : List Value} {H : Heap} {R : Value → Heap → Prop} {fn : Func} {c : Code} {n : Nat} {rs : List ResultVar} (hp : prim f l.toArray H = none) (hf : P.funcs[f]? = some fn) (hb : fn.body = some c) (hn : fn.ntmps = n) (hr : fn.results.toList = rs) (hle : Nat.ble l.length n = true)
    (h : ∀ fr : Fr, fr.n = n → (∀ i (hi : Nat.blt i l.length = true), fr.get i = l[i]'(by simpa [Nat.blt_eq] using hi)) → M P prim (MQ P rs R) [.code c] .normal fr H) : CallsA P prim f l.toArray H R := by
  refine calls_enter hp hf hb ?_
  rw [hn, hr]
  exact h _ (init_n (by simpa using Nat.le_of_ble_eq_true hle)) fun i hi => init_get (by simpa [Nat.blt_eq] using hi)

section
variable {P : Program} {t : TypeId} {H : Heap} {s : ByteArray} {j : IntKind}
theorem len_str (h : P.underlying t = some .string) : lenA P #[t] (.string s) H = some (.int .i64 s.size) := by simp [lenA, h]
theorem len_slice {e : TypeId} {a : Option Addr} {n c : Nat} (h : P.underlying t = some (.slice e)) : lenA P #[t] (.slice a n c) H = some (.int .i64 n) := by simp [lenA, h]
/-- The byte at a place. -/
def btAt (s : ByteArray) (i : Nat) : UInt8 := s.data.toList.getD i 0
theorem index_str {i : Int} (h : P.underlying t = some .string) (h0 : 0 ≤ i) (h1 : i < s.size) : evIndex P t (.string s) (.int j i) H = some (.val (.int .u8 (btAt s i.toNat).toNat) H) := by
  have hl : i.toNat < s.data.toList.length := by
    have : s.data.toList.length = s.size := by simp
    omega
  simp [evIndex, strIndexA, h, h0, btAt, List.getD_eq_getElem?_getD, List.getElem?_eq_getElem hl]
end
section
variable {P : Program} {prim : CallF} {Q : AExit → Fr → Heap → Prop} {k : List Item} {fr : Fr} {H : Heap}
theorem mcond_cases {b : Bool} {t e : Code} (h1 : b = true → M P prim Q (.code t :: k) .normal fr H) (h2 : b = false → M P prim Q (.code e :: k) .normal fr H) : MCond P prim Q (.bool b) t e k fr H := by
  cases b with
  | true => exact h1 rfl
  | false => exact h2 rfl
theorem mg_t {b : Bool} {o : Oper} {all l : List Oper} (h1 : b = true → MX P prim Q (evalOp P fr.eval o H) o.dst all l k fr H) (h2 : b = false → M P prim Q (.ops all l :: k) .normal (fr.put o.dst undef) H) : MG P prim Q (some b) true o all l k fr H := by
  cases b with
  | true => rw [MG_on]; exact h1 rfl
  | false => rw [MG_ft]; exact h2 rfl
theorem mg_f {b : Bool} {o : Oper} {all l : List Oper} (h1 : b = true → M P prim Q (.ops all l :: k) .normal (fr.put o.dst undef) H) (h2 : b = false → MX P prim Q (evalOp P fr.eval o H) o.dst all l k fr H) : MG P prim Q (some b) false o all l k fr H := by
  cases b with
  | true => rw [MG_tf]; exact h1 rfl
  | false => rw [MG_on]; exact h2 rfl
/-- A value's truth. -/
def yb (v : Value) : Option Bool := match v with | .bool b => some b | _ => none
theorem yb_bool {b : Bool} : yb (.bool b) = some b := rfl
theorem yb_undef : yb undef = none := rfl
theorem yv_some {t : Tmp} : yv (some t) fr = yb (fr.get t) := rfl
end
/-- The kit of a walk. -/
theorem mq_ret {P : Program} {rs : List ResultVar} {R : Value → Heap → Prop} {fr : Fr} {H : Heap} : MQ P rs R .ret fr H = ∃ vs, resultsA P fr H rs = some vs ∧ R (tupled vs) H := by
  apply propext
  exact ⟨fun h => h.2, fun h => ⟨(fun id hh => by cases hh), h⟩⟩
theorem mq_normal {P : Program} {rs : List ResultVar} {R : Value → Heap → Prop} {fr : Fr} {H : Heap} : MQ P rs R .normal fr H = ∃ vs, resultsA P fr H rs = some vs ∧ R (tupled vs) H := by
  apply propext
  exact ⟨fun h => h.2, fun h => ⟨(fun id hh => by cases hh), h⟩⟩
theorem res_one {P : Program} {R : Value → Heap → Prop} {fr : Fr} {H : Heap} {t : Tmp} : (∃ vs, resultsA P fr H [.tmp t] = some vs ∧ R (tupled vs) H) = R (fr.get t) H := by
  apply propext
  constructor
  · rintro ⟨vs, h, hr⟩
    simp only [resultsA, resultA, Option.some.injEq] at h
    subst h
    exact hr
  · intro h
    exact ⟨[fr.get t], rfl, h⟩
theorem res_two {P : Program} {R : Value → Heap → Prop} {fr : Fr} {H : Heap} {t u : Tmp} : (∃ vs, resultsA P fr H [.tmp t, .tmp u] = some vs ∧ R (tupled vs) H) = R (.tuple #[fr.get t, fr.get u]) H := by
  apply propext
  constructor
  · rintro ⟨vs, h, hr⟩
    simp only [resultsA, resultA, Option.some.injEq] at h
    subst h
    exact hr
  · intro h
    exact ⟨[fr.get t, fr.get u], rfl, h⟩
theorem res_none {P : Program} {R : Value → Heap → Prop} {fr : Fr} {H : Heap} : (∃ vs, resultsA P fr H [] = some vs ∧ R (tupled vs) H) = R (.tuple #[]) H := by
  apply propext
  constructor
  · rintro ⟨vs, h, hr⟩
    simp only [resultsA, Option.some.injEq] at h
    subst h
    exact hr
  · intro h
    exact ⟨[], rfl, h⟩
section
variable {P : Program} {R : Value → Heap → Prop} {fr : Fr} {H : Heap} {t u v : Tmp}
theorem mq_ret0 : MQ P [] R .ret fr H = R (.tuple #[]) H := mq_ret.trans res_none
theorem mq_ret1 : MQ P [.tmp t] R .ret fr H = R (fr.get t) H := mq_ret.trans res_one
theorem mq_ret2 : MQ P [.tmp t, .tmp u] R .ret fr H = R (.tuple #[fr.get t, fr.get u]) H := mq_ret.trans res_two
theorem mq_end0 : MQ P [] R .normal fr H = R (.tuple #[]) H := mq_normal.trans res_none
theorem mq_end1 : MQ P [.tmp t] R .normal fr H = R (fr.get t) H := mq_normal.trans res_one
theorem mq_end2 : MQ P [.tmp t, .tmp u] R .normal fr H = R (.tuple #[fr.get t, fr.get u]) H := mq_normal.trans res_two
theorem res_three : (∃ vs, resultsA P fr H [.tmp t, .tmp u, .tmp v] = some vs ∧ R (tupled vs) H) = R (.tuple #[fr.get t, fr.get u, fr.get v]) H := by
  apply propext
  constructor
  · rintro ⟨vs, h, hr⟩
    simp only [resultsA, resultA, Option.some.injEq] at h
    subst h
    exact hr
  · intro h
    exact ⟨[fr.get t, fr.get u, fr.get v], rfl, h⟩
theorem mq_ret3 : MQ P [.tmp t, .tmp u, .tmp v] R .ret fr H = R (.tuple #[fr.get t, fr.get u, fr.get v]) H := mq_ret.trans res_three
end
end Go.Ab
namespace Go.Ab
/-! ### Numbers that fit -/
theorem w64 {x : Int} (h1 : -9223372036854775808 ≤ x) (h2 : x ≤ 9223372036854775807) : IntKind.i64.wrap x = x := by rw [IntKind.wrap_i64]; omega
theorem w32 {x : Int} (h1 : -2147483648 ≤ x) (h2 : x ≤ 2147483647) : IntKind.i32.wrap x = x := by
  simp [IntKind.wrap, IntKind.bits, IntKind.signed]; omega
theorem wu8 {x : Int} (h1 : 0 ≤ x) (h2 : x ≤ 255) : IntKind.u8.wrap x = x := by rw [IntKind.wrap_u8]; omega
theorem wu32 {x : Int} (h1 : 0 ≤ x) (h2 : x ≤ 4294967295) : IntKind.u32.wrap x = x := by rw [IntKind.wrap_u32]; omega
theorem wu64 {x : Int} (h1 : 0 ≤ x) (h2 : x ≤ 18446744073709551615) : IntKind.u64.wrap x = x := by
  simp [IntKind.wrap, IntKind.bits, IntKind.signed]; omega
theorem dec_t {p : Prop} [Decidable p] : decide p = true ↔ p := decide_eq_true_iff
theorem dec_f {p : Prop} [Decidable p] : decide p = false ↔ ¬ p := decide_eq_false_iff_not
theorem mcond_dec {P : Program} {prim : CallF} {Q : AExit → Fr → Heap → Prop} {k : List Item} {fr : Fr} {H : Heap} {p : Prop} [Decidable p] {t e : Code} (h1 : p → M P prim Q (.code t :: k) .normal fr H) (h2 : ¬ p → M P prim Q (.code e :: k) .normal fr H) : MCond P prim Q (.bool (decide p)) t e k fr H :=
  mcond_cases (fun h => h1 (decide_eq_true_iff.1 h)) (fun h => h2 (decide_eq_false_iff_not.1 h))
section
variable {P : Program} {prim : CallF} {Q : AExit → Fr → Heap → Prop} {k : List Item} {fr : Fr} {H : Heap}
theorem mg_t_dec {p : Prop} [Decidable p] {o : Oper} {all l : List Oper} (h1 : p → MX P prim Q (evalOp P fr.eval o H) o.dst all l k fr H) (h2 : ¬ p → M P prim Q (.ops all l :: k) .normal (fr.put o.dst undef) H) : MG P prim Q (some (decide p)) true o all l k fr H :=
  mg_t (fun h => h1 (decide_eq_true_iff.1 h)) (fun h => h2 (decide_eq_false_iff_not.1 h))
theorem mg_f_dec {p : Prop} [Decidable p] {o : Oper} {all l : List Oper} (h1 : p → M P prim Q (.ops all l :: k) .normal (fr.put o.dst undef) H) (h2 : ¬ p → MX P prim Q (evalOp P fr.eval o H) o.dst all l k fr H) : MG P prim Q (some (decide p)) false o all l k fr H :=
  mg_f (fun h => h1 (decide_eq_true_iff.1 h)) (fun h => h2 (decide_eq_false_iff_not.1 h))
theorem mcond_ndec {p : Prop} [Decidable p] {t e : Code} (h1 : ¬ p → M P prim Q (.code t :: k) .normal fr H) (h2 : p → M P prim Q (.code e :: k) .normal fr H) : MCond P prim Q (.bool (!decide p)) t e k fr H :=
  mcond_cases (fun h => h1 (by simpa using h)) (fun h => h2 (by simpa using h))
theorem mg_t_ndec {p : Prop} [Decidable p] {o : Oper} {all l : List Oper} (h1 : ¬ p → MX P prim Q (evalOp P fr.eval o H) o.dst all l k fr H) (h2 : p → M P prim Q (.ops all l :: k) .normal (fr.put o.dst undef) H) : MG P prim Q (some (!decide p)) true o all l k fr H :=
  mg_t (fun h => h1 (by simpa using h)) (fun h => h2 (by simpa using h))
theorem mg_f_ndec {p : Prop} [Decidable p] {o : Oper} {all l : List Oper} (h1 : ¬ p → M P prim Q (.ops all l :: k) .normal (fr.put o.dst undef) H) (h2 : p → MX P prim Q (evalOp P fr.eval o H) o.dst all l k fr H) : MG P prim Q (some (!decide p)) false o all l k fr H :=
  mg_f (fun h => h1 (by simpa using h)) (fun h => h2 (by simpa using h))
end
end Go.Ab
