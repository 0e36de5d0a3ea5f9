/-
  How an abstract memory stands to a world of the model, and what keeps that standing: a draw, a new block, a store, an append, a map's turn. Conditions: none (definitions and plain laws).
-/
import Derived.Test.YtnemoodjbekngaaAbBase
import Derived.Laws.IdiomCopy
namespace Go.Ab
open Go.RowKit (Below)

def AObj.own : AObj → Bool
  | .row .arg _ => false
  | _ => true

/-- A map's entries. -/
def ERel (π : List Place) (e e' : MapEntry) : Prop := VRel π e.key e'.key ∧ VRel π e.val e'.val ∧ e.born = e'.born
theorem ERel.mono {π π' : List Place} (hp : PLe π π') {e e' : MapEntry} (h : ERel π e e') : ERel π' e e' := ⟨h.1.mono hp, h.2.1.mono hp, h.2.2⟩

structure RowAt (w0 : World) (π : List Place) (i : Nat) (k : Kind) (cells : List Value) (w : World) (p : Place) (C : Array Value) (e : TypeId) (fz : Nat × Nat) : Prop where
  place : π[i]? = some p
  block : w.heap[p.B]? = some (.cells C e fz)
  whole : C.size = p.S
  elem : p.sz = k.sz
  size : p.d + cells.length ≤ C.size
  cell : ∀ j, j < cells.length → VRel π (cells.getD j undef) (C.getD (p.d + j) undef)
  arg : k.isArg = true → p.B < w0.heap.size
  own : k.isArg = false → w0.heap.size ≤ p.B
  free : k.isRw = true → ∀ j, p.d ≤ j → j < C.size → ¬ (fz.1 ≤ j ∧ j < fz.2)

def ORel (w0 : World) (π : List Place) (i : Nat) (w : World) : AObj → Prop
  | .row k cells => ∃ p C e fz, RowAt w0 π i k cells w p C e fz
  | .map es clock => ∃ (p : Place) (E : Array MapEntry), π[i]? = some p ∧ w0.heap.size ≤ p.B ∧ w.heap[p.B]? = some (.map E clock) ∧ E.size = es.length ∧ ∀ (j : Nat) (e e' : MapEntry), es[j]? = some e → E[j]? = some e' → ERel π e e'
  | .iter s pos => ∃ p : Place, π[i]? = some p ∧ w0.heap.size ≤ p.B ∧ w.heap[p.B]? = some (.stringIter s pos)

structure HRel (w0 : World) (π : List Place) (H : Heap) (w : World) : Prop where
  len : π.length = H.n
  obj : ∀ i o, H.get i = some o → ORel w0 π i w o
  inj : ∀ i j oi oj x y, H.get i = some oi → H.get j = some oj → oi.own = true → oj.own = true → π[i]? = some x → π[j]? = some y → x.B = y.B → i = j
  below : Below w0.heap.size w0 w

theorem ORel.mono {w0 : World} {π π' : List Place} {i : Nat} {w w' : World} {o : AObj} (h : ORel w0 π i w o) (hp : PLe π π') (hw : ∀ x, π[i]? = some x → w'.heap[x.B]? = w.heap[x.B]?) : ORel w0 π' i w' o := by
  cases o with
  | row k cells =>
    obtain ⟨p, C, e, fz, r⟩ := h
    exact ⟨p, C, e, fz, hp _ _ r.place, by rw [hw _ r.place]; exact r.block, r.whole, r.elem, r.size, fun j hj => (r.cell j hj).mono hp, r.arg, r.own, r.free⟩
  | map es clock =>
    obtain ⟨R, E, h1, h2, h3, h4, h5⟩ := h
    exact ⟨R, E, hp _ _ h1, h2, by rw [hw _ h1]; exact h3, h4, fun j e e' he he' => (h5 j e e' he he').mono hp⟩
  | iter s pos =>
    obtain ⟨R, h1, h2, h3⟩ := h
    exact ⟨R, hp _ _ h1, h2, by rw [hw _ h1]; exact h3⟩

theorem ORel.placed {w0 : World} {π : List Place} {i : Nat} {w : World} {o : AObj} (h : ORel w0 π i w o) : ∃ x, π[i]? = some x ∧ x.B < w.heap.size := by
  have lt : ∀ (B : Nat) (o : Obj), w.heap[B]? = some o → B < w.heap.size := fun B o h => (Array.getElem?_eq_some_iff.1 h).1
  cases o with
  | row k cells => obtain ⟨p, C, e, fz, r⟩ := h; exact ⟨_, r.place, lt _ _ r.block⟩
  | map es clock => obtain ⟨R, E, h1, h2, h3, _⟩ := h; exact ⟨_, h1, lt _ _ h3⟩
  | iter s pos => obtain ⟨R, h1, h2, h3⟩ := h; exact ⟨_, h1, lt _ _ h3⟩

theorem ORel.owned {w0 : World} {π : List Place} {i : Nat} {w : World} {o : AObj} (h : ORel w0 π i w o) {x : Place} (hx : π[i]? = some x) : (o.own = true → w0.heap.size ≤ x.B) ∧ (o.own = false → x.B < w0.heap.size) := by
  cases o with
  | row k cells =>
    obtain ⟨p, C, e, fz, r⟩ := h
    have := r.place
    rw [hx] at this
    obtain rfl := Option.some.inj this
    refine ⟨fun ho => r.own (by cases k <;> simp_all [AObj.own, Kind.isArg]), fun ho => r.arg ?_⟩
    cases k <;> simp_all [AObj.own, Kind.isArg]
  | map es clock =>
    obtain ⟨R, E, h1, h2, h3, _⟩ := h
    rw [hx] at h1
    obtain rfl := Option.some.inj h1
    exact ⟨fun _ => h2, fun ho => by simp [AObj.own] at ho⟩
  | iter s pos =>
    obtain ⟨R, h1, h2, h3⟩ := h
    rw [hx] at h1
    obtain rfl := Option.some.inj h1
    exact ⟨fun _ => h2, fun ho => by simp [AObj.own] at ho⟩

section
variable {w0 : World} {π : List Place} {H : Heap} {w : World}

/-- A world with the same blocks. -/
theorem HRel.same (h : HRel w0 π H w) {w' : World} (hh : w'.heap = w.heap) (h1 : w'.os = w.os) (h2 : w'.tape = w.tape) (h3 : w'.output = w.output) : HRel w0 π H w' :=
  ⟨h.len, fun i o ho => (h.obj i o ho).mono (PLe.refl _) (fun x _ => by rw [hh]), h.inj,
    ⟨h1.trans h.below.os, h2.trans h.below.tape, h3.trans h.below.output, by rw [hh]; exact h.below.size, fun k hk => by rw [hh]; exact h.below.block k hk⟩⟩

theorem HRel.drew (h : HRel w0 π H w) : HRel w0 π H w.drew := h.same rfl rfl rfl rfl

theorem HRel.place_lt (h : HRel w0 π H w) {i : Nat} {o : AObj} (ho : H.get i = some o) {x : Place} (hx : π[i]? = some x) : x.B < w.heap.size := by
  obtain ⟨y, hy, hl⟩ := (h.obj i o ho).placed
  rw [hx] at hy
  obtain rfl := Option.some.inj hy
  exact hl

theorem HRel.get_lt (h : HRel w0 π H w) {i : Nat} {x : Place} (hx : π[i]? = some x) : i < H.n := by
  rw [← h.len]
  rcases Nat.lt_or_ge i π.length with h' | h'
  · exact h'
  · rw [List.getElem?_eq_none h'] at hx; cases hx

theorem last_place (π : List Place) (x : Place) : (π ++ [x])[π.length]? = some x := by simp

theorem place_push {π : List Place} {x y : Place} {i : Nat} (hi : i < π.length) (h : (π ++ [x])[i]? = some y) : π[i]? = some y := by
  rwa [List.getElem?_append_left hi] at h

/-- A new block of the call's own. -/
theorem HRel.push (h : HRel w0 π H w) {o : AObj} {x : Place} {w' : World} (hw : ∀ k, k < w.heap.size → w'.heap[k]? = w.heap[k]?) (hb : Below w0.heap.size w w') (hx : w.heap.size ≤ x.B)
    (ho : ORel w0 (π ++ [x]) H.n w' o) : HRel w0 (π ++ [x]) (H.push o) w' := by
  have hs : w0.heap.size ≤ w.heap.size := h.below.size
  refine ⟨by simp [h.len, Heap.n_push], fun i o' hi => ?_, ?_, h.below.trans hb⟩
  · rw [Heap.get_push] at hi
    by_cases he : i = H.n
    · rw [if_pos he] at hi
      obtain rfl := Option.some.inj hi
      subst he; exact ho
    · rw [if_neg he] at hi
      exact (h.obj i o' hi).mono (PLe.push _ _) (fun y hy => hw _ (h.place_lt hi hy))
  · intro i j oi oj y z hi hj ho1 ho2 hy hz hyz
    have old : ∀ {i : Nat} {oi : AObj} {y : Place}, i ≠ H.n → (H.push o).get i = some oi → (π ++ [x])[i]? = some y → H.get i = some oi ∧ π[i]? = some y := by
      intro i oi y he hi hy
      rw [Heap.get_push, if_neg he] at hi
      exact ⟨hi, place_push (by rw [h.len]; exact Heap.lt_of_get hi) hy⟩
    have new : ∀ {y : Place}, (π ++ [x])[H.n]? = some y → y = x := by
      intro y hy
      rw [← h.len, last_place] at hy
      exact (Option.some.inj hy).symm
    by_cases e1 : i = H.n
    · by_cases e2 : j = H.n
      · omega
      · exfalso
        obtain ⟨g, p⟩ := old e2 hj hz
        have := h.place_lt g p
        subst e1
        have := new hy
        subst this
        omega
    · by_cases e2 : j = H.n
      · exfalso
        obtain ⟨g, p⟩ := old e1 hi hy
        have := h.place_lt g p
        subst e2
        have := new hz
        subst this
        omega
      · obtain ⟨g, p⟩ := old e1 hi hy
        obtain ⟨g', p'⟩ := old e2 hj hz
        exact h.inj i j oi oj y z g g' ho1 ho2 p p' hyz

/-- A block is forgotten. -/
theorem HRel.kill (h : HRel w0 π H w) (b : Nat) : HRel w0 π (H.put b none) w := by
  by_cases hb : b < H.n
  · refine ⟨h.len, fun i o hi => ?_, ?_, h.below⟩
    · rw [Heap.get_put _ _ _ _ hb] at hi
      by_cases he : i = b
      · rw [if_pos he] at hi; cases hi
      · rw [if_neg he] at hi; exact h.obj i o hi
    · intro i j oi oj x y hi hj
      rw [Heap.get_put _ _ _ _ hb] at hi hj
      by_cases e1 : i = b
      · rw [if_pos e1] at hi; cases hi
      · rw [if_neg e1] at hi
        by_cases e2 : j = b
        · rw [if_pos e2] at hj; cases hj
        · rw [if_neg e2] at hj; exact h.inj i j oi oj x y hi hj
  · have he : ∀ i, (H.put b none).get i = H.get i := by
      intro i
      rw [Heap.put, Heap.get_mk, Heap.get_def]
      by_cases hi : i < H.n
      · rw [if_pos hi, if_pos hi, Tr.get_set, if_neg (by omega)]
      · rw [if_neg hi, if_neg hi]
    refine ⟨h.len, fun i o hi => ?_, ?_, h.below⟩
    · rw [he] at hi; exact h.obj i o hi
    · intro i j oi oj x y hi hj
      rw [he] at hi hj
      exact h.inj i j oi oj x y hi hj

/-- A block of the call's own is turned, in the world at its own place alone. -/
theorem HRel.turn (h : HRel w0 π H w) {b : Nat} {o o' : AObj} (hg : H.get b = some o) (ho : o.own = true) {x : Place} (hx : π[b]? = some x) {w' : World}
    (hw : ∀ k, k ≠ x.B → w'.heap[k]? = w.heap[k]?) (hb : Below w0.heap.size w w') (hr : ORel w0 π b w' o') : HRel w0 π (H.put b (some o')) w' := by
  have hlt := Heap.lt_of_get hg
  refine ⟨h.len, fun i oi hi => ?_, ?_, h.below.trans hb⟩
  · rw [Heap.get_put _ _ _ _ hlt] at hi
    by_cases he : i = b
    · rw [if_pos he] at hi
      obtain rfl := Option.some.inj hi
      subst he; exact hr
    · rw [if_neg he] at hi
      refine (h.obj i oi hi).mono (PLe.refl _) (fun y hy => hw _ (fun e => ?_))
      have o1 := (h.obj i oi hi).owned hy
      have o2 := (h.obj b o hg).owned hx
      cases hoi : oi.own with
      | true => exact he (h.inj i b oi o y x hi hg hoi ho hy hx e)
      | false => have := o1.2 hoi; have := o2.1 ho; omega
  · intro i j oi oj y z hi hj ho1 ho2 hy hz hyz
    rw [Heap.get_put _ _ _ _ hlt] at hi hj
    by_cases e1 : i = b
    · by_cases e2 : j = b
      · omega
      · rw [if_neg e2] at hj
        subst e1
        exact h.inj i j o oj y z hg hj ho ho2 hy hz hyz
    · rw [if_neg e1] at hi
      by_cases e2 : j = b
      · subst e2
        exact h.inj i j oi o y z hi hg ho1 ho hy hz hyz
      · rw [if_neg e2] at hj
        exact h.inj i j oi oj y z hi hj ho1 ho2 hy hz hyz

end

/-! ### Cells written in a row -/
theorem setCells_other (B : Nat) : ∀ (vs : List Value) (o : Nat) (w : World) (k : Nat), k ≠ B → (w.setCells B o vs).heap[k]? = w.heap[k]?
  | [], _, _, _, _ => rfl
  | v :: r, o, w, k, h => by
    simp only [World.setCells]
    rw [setCells_other B r _ _ k h, Below.heap_setCell _ _ _ _ h]
theorem setCells_size (B : Nat) : ∀ (vs : List Value) (o : Nat) (w : World), (w.setCells B o vs).heap.size = w.heap.size
  | [], _, _ => rfl
  | v :: r, o, w => by simp only [World.setCells]; rw [setCells_size B r]; simp [World.setCell]
theorem setCells_os (B : Nat) : ∀ (vs : List Value) (o : Nat) (w : World), (w.setCells B o vs).os = w.os ∧ (w.setCells B o vs).tape = w.tape ∧ (w.setCells B o vs).output = w.output
  | [], _, _ => ⟨rfl, rfl, rfl⟩
  | v :: r, o, w => by simp only [World.setCells]; exact setCells_os B r _ _
/-- A list written into a row. -/
def spliceA (C : Array Value) : Nat → List Value → Array Value
  | _, [] => C
  | o, v :: r => spliceA (C.setIfInBounds o v) (o + 1) r
theorem spliceA_size : ∀ (vs : List Value) (C : Array Value) (o : Nat), (spliceA C o vs).size = C.size
  | [], _, _ => rfl
  | v :: r, C, o => by simp only [spliceA]; rw [spliceA_size r]; simp
theorem spliceA_get : ∀ (vs : List Value) (C : Array Value) (o j : Nat), o + vs.length ≤ C.size →
    (spliceA C o vs).getD j undef = if o ≤ j ∧ j < o + vs.length then vs.getD (j - o) undef else C.getD j undef
  | [], C, o, j, _ => by simp only [spliceA]; rw [if_neg (by simp)]
  | v :: r, C, o, j, h => by
    simp only [spliceA]
    simp only [List.length_cons] at h
    rw [spliceA_get r _ _ _ (by simp; omega)]
    by_cases hj : j = o
    · subst hj
      rw [if_neg (by omega), if_pos (by simp)]
      simp [Array.getD_eq_getD_getElem?, Array.getElem?_setIfInBounds, show j < C.size by omega]
    · by_cases h1 : o + 1 ≤ j ∧ j < o + 1 + r.length
      · rw [if_pos h1, if_pos (by simp only [List.length_cons]; omega)]
        obtain ⟨m, rfl⟩ : ∃ m, j = o + 1 + m := ⟨j - (o + 1), by omega⟩
        rw [show o + 1 + m - (o + 1) = m by omega, show o + 1 + m - o = m + 1 by omega]
        rfl
      · rw [if_neg h1, if_neg (by simp only [List.length_cons]; omega)]
        simp [Array.getD_eq_getD_getElem?, Array.getElem?_setIfInBounds, show ¬ o = j by omega]
theorem setCells_row (B : Nat) (e : TypeId) (fz : Nat × Nat) : ∀ (vs : List Value) (C : Array Value) (o : Nat) (w : World), w.heap[B]? = some (.cells C e fz) → (w.setCells B o vs).heap[B]? = some (.cells (spliceA C o vs) e fz)
  | [], _, _, _, h => h
  | v :: r, C, o, w, h => by
    simp only [World.setCells, spliceA]
    apply setCells_row B e fz r
    simp only [World.setCell, Array.getElem?_modify, h, if_true, Option.map_some]
    rfl

theorem Below.setCells {B0 : Nat} (w : World) {B : Nat} (h : B0 ≤ B) (o : Nat) (vs : List Value) : Below B0 w (w.setCells B o vs) := by
  obtain ⟨h1, h2, h3⟩ := setCells_os B vs o w
  exact ⟨h1, h2, h3, by rw [setCells_size]; exact Nat.le_refl _, fun k hk => setCells_other B vs o w k (by omega)⟩

/-- A list written into a list. -/
def splice (cells : List Value) (o : Nat) (vs : List Value) : List Value := cells.take o ++ vs ++ cells.drop (o + vs.length)
theorem splice_length {cells vs : List Value} {o : Nat} (h : o + vs.length ≤ cells.length) : (splice cells o vs).length = cells.length := by
  simp [splice]; omega
theorem splice_get {cells vs : List Value} {o : Nat} (h : o + vs.length ≤ cells.length) (j : Nat) :
    (splice cells o vs).getD j undef = if o ≤ j ∧ j < o + vs.length then vs.getD (j - o) undef else cells.getD j undef := by
  unfold splice
  have ht : (cells.take o).length = o := by simp; omega
  simp only [List.getD_eq_getElem?_getD]
  by_cases h1 : j < o
  · rw [if_neg (by omega), List.append_assoc, List.getElem?_append_left (by omega), List.getElem?_take_of_lt h1]
  · by_cases h2 : j < o + vs.length
    · rw [if_pos ⟨by omega, h2⟩, List.append_assoc, List.getElem?_append_right (by omega), ht, List.getElem?_append_left (by omega)]
    · rw [if_neg (by omega), List.getElem?_append_right (by rw [List.length_append]; omega), List.length_append, ht, List.getElem?_drop]
      congr 2; omega
end Go.Ab
