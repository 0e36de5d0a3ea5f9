/-
  Slices as lists: what is read of them. Conditions: those of each law.
-/
import Derived.Test.YtnemoodjbekngaaAbGo
namespace Go.Ab

/-- A slice reads so: so many elements of so many cells. -/
def Vw (H : Heap) (v : Value) (sz n : Nat) (cs : List Value) : Prop :=
  cs.length = n * sz ∧ ((v = .slice none 0 0 ∧ n = 0) ∨ ∃ b o c, v = .slice (some ⟨b, o, none⟩) n c ∧ (n = 0 ∨ ∃ k C, H.get b = some (.row k C) ∧ (C.drop o).take (n * sz) = cs ∧ o + n * sz ≤ C.length))
/-- Where an element lies. -/
def elemPtr (v : Value) (i sz : Nat) : Value := match v with | .slice (some ⟨b, o, none⟩) _ _ => .pointer (some ⟨b, o + i * sz, none⟩) | _ => undef

section
variable {P : Program} {H : Heap} {v : Value} {sz n : Nat} {cs : List Value} {t e : TypeId}
theorem len_vw (h : Vw H v sz n cs) (hu : P.underlying t = some (.slice e)) {H' : Heap} : lenA P #[t] v H' = some (.int .i64 n) := by
  obtain ⟨_, ⟨rfl, rfl⟩ | ⟨b, o, c, rfl, _⟩⟩ := h <;> exact len_slice hu
theorem idx_vw (h : Vw H v sz n cs) (hu : P.underlying t = some (.slice e)) (hs : sizeAt P e = some sz) {k : IntKind} {i : Int} (h0 : 0 ≤ i) (h1 : i < n) : indexAddrA P t v (.int k i) = some (elemPtr v i.toNat sz) := by
  obtain ⟨_, ⟨rfl, rfl⟩ | ⟨b, o, c, rfl, _⟩⟩ := h
  · omega
  · simp [indexAddrA, hu, hs, h0, h1, elemPtr]
theorem Vw.row (h : Vw H v sz n cs) (hn : 0 < n) : ∃ b o c k C, v = .slice (some ⟨b, o, none⟩) n c ∧ H.get b = some (.row k C) ∧ (C.drop o).take (n * sz) = cs ∧ o + n * sz ≤ C.length := by
  obtain ⟨_, ⟨rfl, rfl⟩ | ⟨b, o, c, rfl, h | ⟨k, C, h1, h2, h3⟩⟩⟩ := h
  · omega
  · omega
  · exact ⟨b, o, c, k, C, rfl, h1, h2, h3⟩
theorem mul_lt_of {i n sz q : Nat} (h : i < n) (hq : q < sz) : i * sz + q < n * sz := by
  have := Nat.mul_le_mul_right sz (show i + 1 ≤ n by omega)
  rw [Nat.add_mul, Nat.one_mul] at this
  omega
theorem read1_vw (h : Vw H v 1 n cs) {i : Nat} (hi : i < n) (ha : aggAt P e = some false) : loadA P e (elemPtr v i 1) H = some (cs.getD i undef) := by
  obtain ⟨b, o, c, k, C, rfl, h1, h2, h3⟩ := h.row (by omega)
  have hl := h.1
  simp only [elemPtr, loadA, ha, read1, h1, Nat.mul_one]
  simp only [Nat.mul_one] at h2 h3 hl
  subst h2
  rw [List.getD_eq_getElem?_getD, List.getElem?_take_of_lt hi, List.getElem?_drop, List.getElem?_eq_getElem (by omega)]
  rfl
theorem readN_vw (h : Vw H v sz n cs) {i : Nat} (hi : i < n) (ha : aggAt P e = some true) (hs : sizeAt P e = some sz) : loadA P e (elemPtr v i sz) H = some (.agg ((cs.drop (i * sz)).take sz).toArray) := by
  obtain ⟨b, o, c, k, C, rfl, h1, h2, h3⟩ := h.row (by omega)
  have hl := h.1
  have hm : i * sz + sz ≤ n * sz := by
    have := Nat.mul_le_mul_right sz (show i + 1 ≤ n by omega)
    rw [Nat.add_mul, Nat.one_mul] at this; exact this
  have hb : Nat.ble (o + i * sz + sz) C.length = true := Nat.ble_eq_true_of_le (by omega)
  simp only [elemPtr, loadA, ha, hs, readN, h1, hb, cond_true, Option.map_some]
  subst h2
  rw [List.drop_take, List.take_take, List.drop_drop, Nat.min_eq_left (by omega)]
/-- It holds in each memory with the same block. -/
def blk (v : Value) : List Nat := match v with | .slice (some ⟨b, _, _⟩) _ _ => [b] | .pointer (some ⟨b, _, _⟩) => [b] | _ => []
theorem Vw.frame (h : Vw H v sz n cs) {H' : Heap} (hf : ∀ b ∈ blk v, ∀ o, H.get b = some o → H'.get b = some o) : Vw H' v sz n cs := by
  obtain ⟨hl, ⟨rfl, rfl⟩ | ⟨b, o, c, rfl, h | ⟨k, C, h1, h2, h3⟩⟩⟩ := h
  · exact ⟨hl, .inl ⟨rfl, rfl⟩⟩
  · exact ⟨hl, .inr ⟨b, o, c, rfl, .inl h⟩⟩
  · exact ⟨hl, .inr ⟨b, o, c, rfl, .inr ⟨k, C, hf b (by simp [blk]) _ h1, h2, h3⟩⟩⟩
/-- A slice of elements, each laid so. -/
def SlV {α : Type} (enc : α → Value) (H : Heap) (v : Value) (xs : List α) : Prop := Vw H v 1 xs.length (xs.map enc)
def eI (x : Int) : Value := .int .i64 x
def eS (x : ByteArray) : Value := .string x
def eB (x : UInt8) : Value := .int .u8 x.toNat
theorem len_sl {α : Type} {enc : α → Value} {xs : List α} (h : SlV enc H v xs) (hu : P.underlying t = some (.slice e)) {H' : Heap} : lenA P #[t] v H' = some (.int .i64 xs.length) := len_vw h hu
theorem idx_sl {α : Type} {enc : α → Value} {xs : List α} (h : SlV enc H v xs) (hu : P.underlying t = some (.slice e)) (hs : sizeAt P e = some 1) {k : IntKind} {i : Int} (h0 : 0 ≤ i) (h1 : i < xs.length) : indexAddrA P t v (.int k i) = some (elemPtr v i.toNat 1) := idx_vw h hu hs h0 h1
theorem read_sl {α : Type} {enc : α → Value} {xs : List α} (h : SlV enc H v xs) (ha : aggAt P e = some false) {i : Nat} (d : α) (hi : i < xs.length) : loadA P e (elemPtr v i 1) H = some (enc (xs.getD i d)) := by
  rw [read1_vw h hi ha]
  simp [List.getD_eq_getElem?_getD, hi]
theorem SlV.nil {α : Type} {enc : α → Value} : SlV enc H (.slice none 0 0) [] := ⟨rfl, .inl ⟨rfl, rfl⟩⟩
theorem SlV.frame {α : Type} {enc : α → Value} {xs : List α} (h : SlV enc H v xs) {H' : Heap} (hf : ∀ b ∈ blk v, ∀ o, H.get b = some o → H'.get b = some o) : SlV enc H' v xs := Vw.frame h hf
theorem SlV.len {α : Type} {enc : α → Value} {xs : List α} {a : Option Addr} {c : Nat} (h : SlV enc H (.slice a n c) xs) : n = xs.length := by
  obtain ⟨_, ⟨hv, hn⟩ | ⟨b, o, c', hv, _⟩⟩ := h
  · simp only [Value.slice.injEq] at hv
    rw [hv.2.1, hn]
  · simp only [Value.slice.injEq] at hv
    exact hv.2.1
theorem SlV.old {α : Type} {enc : α → Value} {xs : List α} (h : SlV enc H v xs) {H' : Heap} (hf : ∀ j, j < H.n → H'.get j = H.get j) : SlV enc H' v xs :=
  h.frame fun b _ o hg => by rw [hf b (Heap.lt_of_get hg)]; exact hg
end
/-- A call that leaves the memory and yields this. -/
theorem MX_det {P : Program} {prim : CallF} {Q : AExit → Fr → Heap → Prop} {k : List Item} {fr : Fr} {H : Heap} {f : FuncId} {args : Array Value} {dst : Option Tmp} {all l : List Oper} {x : Value} (hc : CallsA P prim f args H fun v H' => v = x ∧ H' = H) :
    MX P prim Q (some (.call f args)) dst all l k fr H = M P prim Q (.ops all l :: k) .normal (fr.put dst x) H := by
  apply propext
  refine ⟨?_, fun h => MX_call hc fun v H' ⟨h1, h2⟩ => by rw [h1, h2]; exact h⟩
  rintro ⟨y, fr', H', hq, N, hN⟩
  obtain ⟨v, H1, ⟨rfl, rfl⟩, N2, h2⟩ := hc
  refine ⟨y, fr', H', hq, N + N2, fun n hn => ?_⟩
  have := hN n (by omega)
  simp only [stepA, h2 n (by omega)] at this
  exact this
/-! ### Where ways meet -/
section
variable {P : Program} {prim : CallF} {Q : AExit → Fr → Heap → Prop} {k : List Item} {fr : Fr} {H : Heap}
theorem M_cut {a : Code} (R : Fr → Heap → Prop) (h1 : M P prim (fun x fr H => x = .normal ∧ R fr H) [.code a] .normal fr H) (h2 : ∀ fr' H', R fr' H' → M P prim Q k .normal fr' H') : M P prim Q (.code a :: k) .normal fr H := by
  obtain ⟨y, fr1, H1, ⟨rfl, hR⟩, N1, e1⟩ := h1
  obtain ⟨z, fr2, H2, hq, N2, e2⟩ := h2 fr1 H1 hR
  refine ⟨z, fr2, H2, hq, N1 + N2, fun n hn => ?_⟩
  have e1 := e1 n (by omega)
  have e2 := e2 n (by omega)
  simp only [rs] at e1 ⊢
  cases he : evalC P (evalF P prim n) n a fr H with
  | none => rw [he] at e1; cases e1
  | some r =>
    obtain ⟨y, f, h⟩ := r
    rw [he] at e1
    simp only [rs, Option.some.injEq, Prod.mk.injEq] at e1
    obtain ⟨rfl, rfl, rfl⟩ := e1
    exact e2
/-- An arm that is taken or not: what holds behind it. -/
theorem mcond_cut {b : Bool} {t e : Code} (R : Fr → Heap → Prop) (ht : b = true → M P prim (fun x fr H => x = .normal ∧ R fr H) [.code t] .normal fr H) (he : b = false → M P prim (fun x fr H => x = .normal ∧ R fr H) [.code e] .normal fr H) (h2 : ∀ fr' H', R fr' H' → M P prim Q k .normal fr' H') : MCond P prim Q (.bool b) t e k fr H := by
  cases b with
  | true => exact M_cut R (ht rfl) h2
  | false => exact M_cut R (he rfl) h2
end
end Go.Ab
