/-
  Memory by its blocks: what is read behind a write, a new block, an append. Conditions: those of each law.
-/
import Derived.Test.YtnemoodjbekngaaAbSl
namespace Go.Ab

/-! ### Blocks behind a turn -/
section
variable {H : Heap} {o : AObj} {i j : Nat} {x : Option AObj}
theorem hget_push_lt (h : j < H.n) : (H.push o).get j = H.get j := by rw [Heap.get_push, if_neg (by omega)]
theorem hget_push_at (h : j = H.n) : (H.push o).get j = some o := by rw [Heap.get_push, if_pos h]
theorem hget_put_ne (h : j ≠ i) : (H.put i x).get j = H.get j := by
  rw [Heap.put, Heap.get_mk, Heap.get_def, Tr.get_set, if_neg h]
theorem hget_put_at (h : i < H.n) : (H.put i x).get i = x := by rw [Heap.get_put _ _ _ _ h, if_pos rfl]
end
/-! ### Pointers -/
section
variable {P : Program} {H : Heap} {b o : Nat} {t : TypeId} {v : Value}
theorem nilc_ptr {a : Addr} : nilCheckA (.pointer (some a)) = some (.pointer (some a)) := rfl
def rd1 (x : Option AObj) (o : Nat) : Option Value := match x with | some (.row _ c) => c[o]? | _ => none
theorem read1_eq : read1 H b o = rd1 (H.get b) o := by unfold read1 rd1; cases H.get b with | none => rfl | some x => cases x <;> rfl
theorem rd1_row {k : Kind} {c : List Value} : rd1 (some (.row k c)) o = c[o]? := rfl
theorem load_one (h : aggAt P t = some false) : loadA P t (.pointer (some ⟨b, o, none⟩)) H = rd1 (H.get b) o := by
  simp only [loadA, h, read1_eq]
def rdN (x : Option AObj) (o n : Nat) : Option Value := match x with | some (.row _ c) => if o + n ≤ c.length then some (.agg ((c.drop o).take n).toArray) else none | _ => none
theorem load_many {n : Nat} (h : aggAt P t = some true) (hs : sizeAt P t = some n) : loadA P t (.pointer (some ⟨b, o, none⟩)) H = rdN (H.get b) o n := by
  simp only [loadA, h, hs, readN, rdN]
  cases H.get b with
  | none => rfl
  | some x => cases x with
    | row k c =>
      simp only
      by_cases h' : o + n ≤ c.length
      · rw [if_pos h', Nat.ble_eq_true_of_le h']; rfl
      · have : Nat.ble (o + n) c.length = false := by
          cases hb : Nat.ble (o + n) c.length with
          | false => rfl
          | true => exact absurd (Nat.le_of_ble_eq_true hb) h'
        rw [if_neg h', this]; rfl
    | _ => rfl
/-- The first so many. -/
def takeN : Nat → List Value → Option (List Value)
  | 0, _ => some []
  | n + 1, x :: l => (takeN n l).map (x :: ·)
  | _ + 1, [] => none
theorem takeN_zero {l : List Value} : takeN 0 l = some [] := rfl
theorem takeN_succ {n : Nat} {x : Value} {l : List Value} : takeN (n + 1) (x :: l) = (takeN n l).map (x :: ·) := rfl
theorem takeN_eq : ∀ (n : Nat) (l : List Value), takeN n l = if n ≤ l.length then some (l.take n) else none
  | 0, l => by simp [takeN]
  | n + 1, [] => by simp [takeN]
  | n + 1, x :: l => by
    rw [takeN, takeN_eq n l]
    by_cases h : n ≤ l.length
    · rw [if_pos h, if_pos (by simpa using h)]; rfl
    · rw [if_neg h, if_neg (by simpa using h)]; rfl
theorem rdN_row {k : Kind} {c : List Value} {n : Nat} (hn : Nat.blt 0 n = true) : rdN (some (.row k c)) o n = (takeN n (c.drop o)).map fun l => .agg l.toArray := by
  simp only [Nat.blt_eq] at hn
  rw [takeN_eq, List.length_drop]
  simp only [rdN]
  by_cases h : o + n ≤ c.length
  · rw [if_pos h, if_pos (by omega)]; rfl
  · rw [if_neg h, if_neg (by omega)]; rfl
/-- What is written: one cell. -/
def wr1 (H : Heap) (x : Option AObj) (b o : Nat) (v : Value) : Option Heap := match x with | some (.row (.rw sz) c) => if o < c.length then some (H.put b (some (.row (.rw sz) (c.set o v)))) else none | _ => none
theorem set_splice {c : List Value} (h : o < c.length) : splice c o [v] = c.set o v := by
  unfold splice
  rw [List.set_eq_take_append_cons_drop, if_pos h]
  simp
/-- One cell. -/
def oneV (v : Value) : Prop := v.cells = #[v] ∧ v.oneCell' = true
theorem store_one (hs : sizeAt P t = some 1) (h : oneV v) : storeA P t (.pointer (some ⟨b, o, none⟩)) v H = wr1 H (H.get b) b o v := by
  obtain ⟨hc, h1⟩ := h
  simp only [storeA, hs, hc, write, wr1]
  rw [show Nat.beq (#[v] : Array Value).size 1 = true from rfl, cond_true]
  cases H.get b with
  | none => rfl
  | some x => cases x with
    | row k c =>
      cases k with
      | rw sz =>
        simp only [List.length_singleton, List.all_cons, List.all_nil, h1, Bool.and_true]
        by_cases hl : o < c.length
        · have : Nat.ble (o + 1) c.length = true := Nat.ble_eq_true_of_le (by omega)
          rw [this, if_pos hl, cond_true, set_splice hl]
        · have : Nat.ble (o + 1) c.length = false := by
            cases hb : Nat.ble (o + 1) c.length with
            | false => rfl
            | true => exact absurd (Nat.le_of_ble_eq_true hb) (by omega)
          rw [this, if_neg hl, cond_false]
      | ro sz => rfl
      | arg => rfl
    | map es c => rfl
    | iter s p => rfl
theorem wr1_row {sz : Nat} {c : List Value} (h : (c[o]?).isSome = true) : wr1 H (some (.row (.rw sz) c)) b o v = some (H.put b (some (.row (.rw sz) (c.set o v)))) := if_pos (by
  rcases Nat.lt_or_ge o c.length with h' | h'
  · exact h'
  · rw [List.getElem?_eq_none h'] at h; cases h)
def wrN (H : Heap) (x : Option AObj) (b o : Nat) (vs : List Value) : Option Heap := match x with | some (.row (.rw sz) c) => if o + vs.length ≤ c.length ∧ vs.all (·.oneCell') = true then some (H.put b (some (.row (.rw sz) (splice c o vs)))) else none | _ => none
theorem store_many {n : Nat} {vs : List Value} (hs : sizeAt P t = some n) (hl : vs.length = n) : storeA P t (.pointer (some ⟨b, o, none⟩)) (.agg vs.toArray) H = wrN H (H.get b) b o vs := by
  subst hl
  simp only [storeA, hs, Value.cells, List.size_toArray, write, wrN]
  rw [show Nat.beq vs.length vs.length = true from Nat.beq_refl _, cond_true]
  cases H.get b with
  | none => rfl
  | some x => cases x with
    | row k c =>
      cases k with
      | rw sz =>
        simp only
        by_cases hl : o + vs.length ≤ c.length
        · rw [Nat.ble_eq_true_of_le hl, Bool.true_and]
          by_cases ha : vs.all (·.oneCell') = true
          · rw [ha, if_pos ⟨hl, rfl⟩]; rfl
          · rw [if_neg (fun h => ha h.2)]
            cases hb : vs.all (·.oneCell') with
            | true => exact absurd hb ha
            | false => rfl
        · have : Nat.ble (o + vs.length) c.length = false := by
            cases hb : Nat.ble (o + vs.length) c.length with
            | false => rfl
            | true => exact absurd (Nat.le_of_ble_eq_true hb) hl
          rw [this, if_neg (fun h => hl h.1)]; rfl
      | ro sz => rfl
      | arg => rfl
    | map es c => rfl
    | iter s p => rfl
/-- Written one behind the other. -/
def setN : List Value → Nat → List Value → Option (List Value)
  | c, _, [] => some c
  | c, o, v :: vs => if o < c.length ∧ v.oneCell' = true then setN (c.set o v) (o + 1) vs else none
theorem setN_nil {c : List Value} : setN c o [] = some c := rfl
theorem setN_cons {c vs : List Value} (h : oneV v) (hc : (c[o]?).isSome = true) : setN c o (v :: vs) = setN (c.set o v) (o + 1) vs := by
  have ho : o < c.length := by
    rcases Nat.lt_or_ge o c.length with h' | h'
    · exact h'
    · rw [List.getElem?_eq_none h'] at hc; cases hc
  exact if_pos ⟨ho, h.2⟩
theorem setN_eq : ∀ (vs : List Value) (c : List Value) (o : Nat), 0 < vs.length → setN c o vs = if o + vs.length ≤ c.length ∧ vs.all (·.oneCell') = true then some (splice c o vs) else none
  | [], _, _, h => by simp at h
  | [v], c, o, _ => by
    simp only [setN, List.length_singleton, List.all_cons, List.all_nil, Bool.and_true]
    by_cases h : o < c.length
    · by_cases h1 : v.oneCell' = true
      · rw [if_pos ⟨h, h1⟩, if_pos ⟨by omega, h1⟩, set_splice h]
      · rw [if_neg (fun x => h1 x.2), if_neg (fun x => h1 x.2)]
    · rw [if_neg (fun x => h x.1), if_neg (fun x => h (by omega))]
  | v :: w :: vs, c, o, _ => by
    rw [setN]
    by_cases h : o < c.length ∧ v.oneCell' = true
    · rw [if_pos h, setN_eq (w :: vs) _ _ (by simp)]
      by_cases h2 : o + (v :: w :: vs).length ≤ c.length ∧ (v :: w :: vs).all (·.oneCell') = true
      · have h2' := h2
        simp only [List.length_cons, List.all_cons, Bool.and_eq_true] at h2 ⊢
        rw [if_pos ⟨by simp only [List.length_set]; omega, h2.2.2⟩, if_pos ⟨by omega, h2.2⟩]
        congr 1
        apply List.ext_getElem?
        intro j
        simp only [splice, List.getElem?_append, List.getElem?_take, List.getElem?_drop, List.length_append, List.length_take, List.length_set, List.length_cons, List.getElem?_set, List.getElem?_cons]
        repeat' split
        all_goals first | rfl | omega | (congr 1; omega) | (simp_all; omega)
      · rw [if_neg h2, if_neg]
        intro h3
        apply h2
        simp only [List.length_cons, List.all_cons, Bool.and_eq_true, List.length_set] at h3 ⊢
        exact ⟨by omega, h.2, h3.2⟩
    · rw [if_neg h, if_neg]
      intro h3
      apply h
      simp only [List.length_cons, List.all_cons, Bool.and_eq_true] at h3
      exact ⟨by omega, h3.2.1⟩
theorem wrN_row {sz : Nat} {c vs : List Value} (hv : (vs[0]?).isSome = true) : wrN H (some (.row (.rw sz) c)) b o vs = (setN c o vs).map fun c => H.put b (some (.row (.rw sz) c)) := by
  rw [setN_eq vs c o (by cases vs with | nil => cases hv | cons v l => simp)]
  simp only [wrN]
  split <;> rfl
end
section
theorem cells_agg {a : Array Value} : (Value.agg a).cells = a := id rfl
theorem ov_bool {b : Bool} : oneV (Value.bool b) := ⟨rfl, rfl⟩
theorem ov_int {k : IntKind} {n : Int} : oneV (Value.int k n) := ⟨rfl, rfl⟩
theorem ov_float {k : FloatKind} {n : Nat} : oneV (Value.float k n) := ⟨rfl, rfl⟩
theorem ov_string {s : ByteArray} : oneV (Value.string s) := ⟨rfl, rfl⟩
theorem ov_pointer {a : Option Addr} : oneV (Value.pointer a) := ⟨rfl, rfl⟩
theorem ov_slice {a : Option Addr} {n c : Nat} : oneV (Value.slice a n c) := ⟨rfl, rfl⟩
theorem ov_map {a : Option Nat} : oneV (Value.map a) := ⟨rfl, rfl⟩
theorem ov_func {f : Fn} {a b : Array Value} : oneV (Value.func f a b) := ⟨rfl, rfl⟩
end

/-! ### Slices of one's own, to append to -/
/-- Written out: none, or a part of a block that may be written. -/
def Own (H : Heap) (a : Option Addr) (n c sz : Nat) (cs : List Value) : Prop :=
  cs.length = n * sz ∧ 0 < sz ∧ n ≤ c / 2 ∧ ((a = none ∧ n = 0 ∧ c = 0) ∨ ∃ b o C, a = some ⟨b, o, none⟩ ∧ c ≠ 0 ∧ H.get b = some (.row (.rw sz) C) ∧ (C.drop o).take (n * sz) = cs ∧ o + n * sz ≤ C.length)
def blkA (a : Option Addr) : List Nat := match a with | some x => [x.block] | none => []
section
variable {H H' : Heap} {a : Option Addr} {n c sz : Nat} {cs : List Value}
theorem Own.vw (h : Own H a n c sz cs) : Vw H (.slice a n c) sz n cs := by
  obtain ⟨hl, hs, hcn, ⟨rfl, rfl, rfl⟩ | ⟨b, o, C, rfl, hc, hg, h1, h2⟩⟩ := h
  · exact ⟨hl, .inl ⟨rfl, rfl⟩⟩
  · exact ⟨hl, .inr ⟨b, o, c, rfl, .inr ⟨_, C, hg, h1, h2⟩⟩⟩
theorem Own.lt (h : Own H a n c sz cs) : ∀ j ∈ blkA a, j < H.n := by
  obtain ⟨hl, hs, hcn, ⟨rfl, rfl, rfl⟩ | ⟨b, o, C, rfl, hc, hg, h1, h2⟩⟩ := h
  · intro j hj; simp [blkA] at hj
  · intro j hj
    simp only [blkA, List.mem_singleton] at hj
    subst hj; exact Heap.lt_of_get hg
theorem Own.frame (h : Own H a n c sz cs) (hf : ∀ j ∈ blkA a, H'.get j = H.get j) : Own H' a n c sz cs := by
  obtain ⟨hl, hs, hcn, ⟨rfl, rfl, rfl⟩ | ⟨b, o, C, rfl, hc, hg, h1, h2⟩⟩ := h
  · exact ⟨hl, hs, hcn, .inl ⟨rfl, rfl, rfl⟩⟩
  · exact ⟨hl, hs, hcn, .inr ⟨b, o, C, rfl, hc, by rw [hf b (by simp [blkA])]; exact hg, h1, h2⟩⟩
theorem Own.empty (H : Heap) (sz : Nat) (hs : 0 < sz) : Own H none 0 0 sz [] := ⟨by simp, hs, by omega, .inl ⟨rfl, rfl, rfl⟩⟩
/-- What a type of slices says of appending: the cells and the bytes of an element. -/
def appTy (P : Program) (at_ : Array TypeId) : Option (Nat × Nat × Bool) :=
  match at_[0]?.bind (elemAt P), at_[1]?.bind P.underlying with
  | some e, some d => match P.info? e, zeroOf P e with
    | some i, some z => bif Nat.beq z.length i.size && Nat.ble i.bytes 1048576 then some (i.size, i.bytes, match d with | .int _ => true | _ => false) else none
    | _, _ => none
  | _, _ => none
theorem app_own {P : Program} {at_ : Array TypeId} {sz by_ m : Nat} {x : Value} {add : List Value} (ht : appTy P at_ = some (sz, by_, false)) (hx : sourceA sz x H = some (m, add)) (hm : 0 < m) (hal : add.length = m * sz) (h1 : add.all (·.oneCell') = true)
    (ho : Own H a n c sz cs) (hb : (n + m) * by_ ≤ 70368744177664) (hb2 : n + m ≤ 70368744177664) :
    ∃ c' H', appendA P at_ (.slice a n c) x H = some (.slice (some ⟨H.n, 0, none⟩) (n + m) c', H') ∧ H'.n = H.n + 1 ∧ Own H' (some ⟨H.n, 0, none⟩) (n + m) c' sz (cs ++ add) ∧ ∀ j, j < H.n → j ∉ blkA a → H'.get j = H.get j := by
  unfold appTy at ht
  split at ht
  case h_2 => cases ht
  rename_i e d he hd
  split at ht
  case h_2 => cases ht
  rename_i i z hi hz
  rw [Bool.cond_eq_ite] at ht
  split at ht
  case isFalse => cases ht
  rename_i hcond
  simp only [Option.some.injEq, Prod.mk.injEq] at ht
  obtain ⟨rfl, rfl, hd'⟩ := ht
  simp only [Bool.and_eq_true] at hcond
  have hsrc : appSourceA i z d x H = some (m, add) := by
    unfold appSourceA
    cases d <;> first | exact hx | simp at hd'
  have hm0 : Nat.beq m 0 = false := Tr.nbeq_ne (by omega)
  obtain ⟨hl, hs, hcn, ⟨rfl, rfl, rfl⟩ | ⟨b, o, C, rfl, hc, hg, h1', h2⟩⟩ := ho
  · refine ⟨2 * m, H.push (.row (.rw i.size) add), ?_, rfl, ?_, ?_⟩
    · have b1 : Nat.ble (m * i.bytes) 70368744177664 = true := Nat.ble_eq_true_of_le (by simpa using hb)
      have b2 : Nat.ble m 70368744177664 = true := Nat.ble_eq_true_of_le (by omega)
      simp only [appendA, he, hd, hi, hz, hsrc, hm0, h1, hcond, b1, b2, cond_false, cond_true, Bool.and_self, Nat.zero_add]
    · have : cs = [] := by simpa using hl
      subst this
      refine ⟨by simpa using hal, hs, by omega, .inr ⟨H.n, 0, add, rfl, by omega, hget_push_at rfl, ?_, ?_⟩⟩
      · simp only [List.drop_zero, List.nil_append, Nat.zero_add]
        rw [List.take_of_length_le (by omega)]
      · rw [Nat.zero_add, Nat.zero_add, hal]; exact Nat.le_refl _
    · intro j hj _; exact hget_push_lt hj
  · have b1 : Nat.ble ((n + m) * i.bytes) 70368744177664 = true := Nat.ble_eq_true_of_le hb
    have b2 : Nat.ble (n + m) 70368744177664 = true := Nat.ble_eq_true_of_le hb2
    have b3 : Nat.ble (o + n * i.size) C.length = true := Nat.ble_eq_true_of_le h2
    have hown : ∀ c', c' ≠ 0 → n + m ≤ c' / 2 → ∀ H1 : Heap, H1.n = H.n → Own (H1.push (.row (.rw i.size) (cs ++ add))) (some ⟨H.n, 0, none⟩) (n + m) c' i.size (cs ++ add) := by
      intro c' hc' hcm H1 hH1
      refine ⟨by rw [List.length_append, hl, hal, Nat.add_mul], hs, hcm, .inr ⟨H.n, 0, cs ++ add, rfl, hc', hget_push_at hH1.symm, ?_, ?_⟩⟩
      · rw [List.drop_zero, List.take_of_length_le (by rw [List.length_append, hl, hal, Nat.add_mul]; exact Nat.le_refl _)]
      · rw [Nat.zero_add, List.length_append, hl, hal, Nat.add_mul]; exact Nat.le_refl _
    have hblt := Heap.lt_of_get hg
    by_cases hA : c % 2 = 1 ∧ c / 2 < n + m
    · refine ⟨2 * (n + m), H.push (.row (.rw i.size) (cs ++ add)), ?_, rfl, hown _ (by omega) (by omega) _ rfl, fun j hj _ => hget_push_lt hj⟩
      simp only [appendA, he, hd, hi, hz, hsrc, hm0, h1, hcond, b1, b2, b3, hg, cond_false, cond_true, Bool.and_self, if_pos hA, h1']
    · have hB : True ∧ c ≠ 0 ∧ i.size ≠ 0 := ⟨trivial, hc, by omega⟩
      have hfr : ∀ j, j < H.n → j ∉ blkA (some (⟨b, o, none⟩ : Addr)) → ((H.put b none).push (.row (.rw i.size) (cs ++ add))).get j = H.get j := by
        intro j hj hjb
        rw [hget_push_lt (by rw [Heap.n_put]; exact hj), hget_put_ne (by simpa [blkA] using hjb)]
      by_cases hC : c % 2 = 1
      · refine ⟨c, (H.put b none).push (.row (.rw i.size) (cs ++ add)), ?_, by rw [Heap.n_push, Heap.n_put], hown _ hc (by omega) _ (Heap.n_put _ _ _), hfr⟩
        simp only [appendA, he, hd, hi, hz, hsrc, hm0, h1, hcond, b1, b2, b3, hg, cond_false, cond_true, Bool.and_self, if_neg hA, if_pos hB, if_pos hC, h1']
      · refine ⟨2 * (n + m), (H.put b none).push (.row (.rw i.size) (cs ++ add)), ?_, by rw [Heap.n_push, Heap.n_put], hown _ (by omega) (by omega) _ (Heap.n_put _ _ _), hfr⟩
        simp only [appendA, he, hd, hi, hz, hsrc, hm0, h1, hcond, b1, b2, b3, hg, cond_false, cond_true, Bool.and_self, if_neg hA, if_pos hB, if_neg hC, h1']
end

/-! ### What is appended, and other sources -/
section
variable {P : Program} {H : Heap} {v : Value} {sz n : Nat} {cs : List Value} {s t e : TypeId}
theorem src_vw (h : Vw H v sz n cs) : sourceA sz v H = some (n, cs) := by
  obtain ⟨hl, ⟨rfl, rfl⟩ | ⟨b, o, c, rfl, h⟩⟩ := h
  · have : cs = [] := by simpa using hl
    subst this; rfl
  · by_cases hn : n = 0
    · subst hn
      have : cs = [] := by simpa using hl
      subst this; rfl
    · rcases h with h | ⟨k, C, hg, h1, h2⟩
      · exact absurd h hn
      · obtain ⟨m, rfl⟩ : ∃ m, n = m + 1 := ⟨n - 1, by omega⟩
        simp only [sourceA, readN, hg, Nat.ble_eq_true_of_le h2, cond_true, Option.map_some, h1]
theorem src_str {s : ByteArray} : sourceA 1 (.string s) H = some (s.size, byteCells s) := rfl
theorem byteCells_len (s : ByteArray) : (byteCells s).length = s.size := by simp [byteCells]
theorem byteCells_one (s : ByteArray) : (byteCells s).all (·.oneCell') = true := by
  rw [List.all_eq_true]; intro x hx
  simp only [byteCells, List.mem_map] at hx
  obtain ⟨b, _, rfl⟩ := hx; rfl
theorem byteCells_eq (s : ByteArray) : byteCells s = s.data.toList.map eB := rfl
theorem bs_one {z : Value} (he : elemAt P t = some e) (hs : sizeAt P e = some 1) (hz : zeroOf P e = some [z]) (h : oneV v) : buildSliceA P t 1 [(0, v)] H = some (.slice (some ⟨H.n, 0, none⟩) 1 3, H.push (.row (.rw 1) [v])) := by
  have hc := h.1
  have b1 : Nat.ble 1 16777216 = true := rfl
  have b2 : Nat.ble 1 1 = true := rfl
  simp [buildSliceA, he, hs, hz, zerosA, fillA, hc, splice, b1, b2]
theorem bs_zero {z : List Value} {m : Nat} (he : elemAt P t = some e) (hs : sizeAt P e = some m) (hz : zeroOf P e = some z) (hl : Nat.beq z.length m = true) : buildSliceA P t 0 [] H = some (.slice (some ⟨H.n, 0, none⟩) 0 1, H.push (.row (.rw m) [])) := by
  have b1 : Nat.ble 0 16777216 = true := rfl
  simp [buildSliceA, he, hs, hz, hl, zerosA, fillA, b1]
theorem bs_all {z : List Value} {m k : Nat} {parts : List (Nat × Value)} (he : elemAt P t = some e) (hs : sizeAt P e = some m) (hz : zeroOf P e = some z) (hl : Nat.beq z.length m = true) (hk : Nat.ble (k * m) 16777216 = true) : buildSliceA P t k parts H = (fillA (fun i => some (i * m, m)) (zerosA z k) parts).map fun l => (.slice (some ⟨H.n, 0, none⟩) k (2 * k + 1), H.push (.row (.rw m) l)) := by
  simp [buildSliceA, he, hs, hz, hl, hk]
theorem bytesStr_map : ∀ xs : List UInt8, bytesStr (xs.map eB) = some xs
  | [] => rfl
  | x :: xs => by
    simp only [List.map_cons, bytesStr, eB, bytesStr_map xs, Option.map_some]
    simp
theorem conv_bytes {xs : List UInt8} {a : Option Addr} {c : Nat} (h : SlV eB H (.slice a n c) xs) (h1 : P.underlying s = some (.slice e)) (h2 : P.underlying e = some (.int .u8)) (h3 : P.underlying t = some .string) : evConv P s t (.slice a n c) H = some (.val (.string ⟨xs.toArray⟩) H) := by
  have key : convertA P s t (.slice a n c) H = some (.string ⟨xs.toArray⟩, H) := by
    obtain ⟨hl, ⟨hv, hn⟩ | ⟨b, o, c', hv, hb⟩⟩ := h
    · simp only [Value.slice.injEq] at hv
      obtain ⟨rfl, rfl, rfl⟩ := hv
      have : xs = [] := by simpa using hn
      subst this
      simp [convertA, h1, h2, h3]
    · simp only [Value.slice.injEq] at hv
      obtain ⟨rfl, rfl, rfl⟩ := hv
      rcases hb with hb | ⟨k, C, hg, e1, e2⟩
      · have : xs = [] := by simpa using hb
        subst this
        simp [convertA, h1, h2, h3]
      · cases hx : xs with
        | nil => simp [convertA, h1, h2, h3]
        | cons x xs' =>
          subst hx
          simp only [Nat.mul_one] at e1 e2
          have e3 : (List.take (x :: xs').length (List.drop o C)) = (x :: xs').map eB := e1
          simp only [List.length_cons] at e3 e2
          simp only [convertA, h1, h2, h3, readN, hg, List.length_cons, Nat.ble_eq_true_of_le e2, cond_true, Option.bind_some, e3, bytesStr_map, Option.map_some]
  unfold evConv
  rw [key]
theorem conv_str {x : ByteArray} (h1 : P.underlying s = some .string) (h2 : P.underlying t = some (.slice e)) (h3 : P.underlying e = some (.int .u8)) : evConv P s t (.string x) H = some (.val (.slice (some ⟨H.n, 0, none⟩) x.size (2 * x.size)) (H.push (.row (.rw 1) (byteCells x)))) := by
  simp [evConv, convertA, h1, h2, h3]
/-! Cuts of texts. -/
def takeB (s : ByteArray) (n : Nat) : ByteArray := subB s 0 n
def dropB (s : ByteArray) (n : Nat) : ByteArray := subB s n s.size
theorem takeB_list (s : ByteArray) (n : Nat) : (takeB s n).data.toList = s.data.toList.take n := by simp [takeB, subB]
theorem dropB_list (s : ByteArray) (n : Nat) : (dropB s n).data.toList = s.data.toList.drop n := by
  have : s.data.toList.length = s.size := rfl
  simp only [dropB, subB]
  rw [List.take_of_length_le (by rw [List.length_drop]; omega)]
theorem takeB_size (s : ByteArray) (n : Nat) : (takeB s n).size = min n s.size := by
  have : (takeB s n).size = (takeB s n).data.toList.length := rfl
  rw [this, takeB_list, List.length_take]; rfl
theorem dropB_size (s : ByteArray) (n : Nat) : (dropB s n).size = s.size - n := by
  have : (dropB s n).size = (dropB s n).data.toList.length := rfl
  rw [this, dropB_list, List.length_drop]; rfl
variable {x : ByteArray} {i j : Int} {k k' : IntKind}
theorem slice_hi (h : P.underlying t = some .string) (h0 : 0 ≤ i) (h1 : i ≤ x.size) : evSlice P t (.string x) none (some (.int k i)) none H = some (.val (.string (takeB x i.toNat)) H) := by
  simp [evSlice, strSliceA, h, boundsA, boundA, h0, h1, takeB]
theorem slice_lo (h : P.underlying t = some .string) (h0 : 0 ≤ i) (h1 : i ≤ x.size) : evSlice P t (.string x) (some (.int k i)) none none H = some (.val (.string (dropB x i.toNat)) H) := by
  simp [evSlice, strSliceA, h, boundsA, boundA, h0, h1, dropB]
theorem slice_lohi (h : P.underlying t = some .string) (h0 : 0 ≤ i) (h1 : i ≤ j) (h2 : j ≤ x.size) : evSlice P t (.string x) (some (.int k i)) (some (.int k' j)) none H = some (.val (.string (subB x i.toNat j.toNat)) H) := by
  have e : (j.toNat : Int) = j := Int.toNat_of_nonneg (by omega)
  simp [evSlice, strSliceA, h, boundsA, boundA, h0, h1, h2, show 0 ≤ j by omega, e]
/-! The greater, the lesser. -/
variable {ρ : Operand → Value} {d : Option Tmp} {ty : TypeId} {pos : String} {af : Array Edge} {g : Option (Nat × Bool)} {a b : Int} {p q : Operand} {at_ : Array TypeId}
/-- The greater one, or the lesser one, of two numbers. -/
def evMM (mx : Bool) (va vb : Value) (rest : Option ARes) (H : Heap) : Option ARes :=
  match va, vb with
  | .int k a, .int _ b => some (.val (.int k (if mx then (if b > a then b else a) else (if b < a then b else a))) H)
  | _, _ => rest
theorem evMM_max {rest : Option ARes} : evMM true (.int k a) (.int k' b) rest H = some (.val (.int k (max a b)) H) := by
  simp only [evMM, if_true]
  congr 3
  rw [Int.max_def]; split <;> split <;> omega
theorem ev_max : evalOp P ρ ⟨d, .call ⟨.builtin .max, #[p, q], at_⟩, ty, pos, af, g⟩ H = evMM true (ρ p) (ρ q) (evalFlat P ρ ⟨d, .call ⟨.builtin .max, #[p, q], at_⟩, ty, pos, af, g⟩ H) H := by
  have h0 : evalOp P ρ ⟨d, .call ⟨.builtin .max, #[p, q], at_⟩, ty, pos, af, g⟩ H = evalFlat P ρ ⟨d, .call ⟨.builtin .max, #[p, q], at_⟩, ty, pos, af, g⟩ H := rfl
  rw [h0]
  unfold evMM
  split
  · rename_i hp hq
    have e : (#[p, q] : Array Operand).map ρ = #[ρ p, ρ q] := by simp
    simp only [evalFlat, execOp, resolve, e, hp, hq]
    simp [Op.operands, Call.operands, hp, hq, flat]
    rfl
  · rfl
end
/-! ### Fields -/
section
variable {P : Program} {s ty off n b o f : Nat} {cs : List Value}
theorem field_addr (h : (match P.underlying s with | some (.struct fs) => (fs[f]?).bind fun f => (sizeAt P f.type).map fun n => (f.offset, n) | _ => none) = some (off, n)) (hn : Nat.blt 0 n = true) : fieldAddrA P s (.pointer (some ⟨b, o, none⟩)) f = some (.pointer (some ⟨b, o + off, none⟩)) := by
  unfold fieldAddrA
  split at h
  · rename_i fs hs
    rw [hs]
    simp only
    cases hf : fs[f]? with
    | none => rw [hf] at h; cases h
    | some fl =>
      rw [hf] at h
      simp only [Option.bind_some] at h
      cases hz : sizeAt P fl.type with
      | none => rw [hz] at h; cases h
      | some m =>
        rw [hz] at h
        simp only [Option.map_some, Option.some.injEq, Prod.mk.injEq] at h
        obtain ⟨rfl, rfl⟩ := h
        simp only [Nat.blt_eq] at hn
        obtain ⟨k, rfl⟩ : ∃ k, m = k + 1 := ⟨m - 1, by omega⟩
        simp only [hz]
  · cases h
theorem field_one (h : (match P.underlying s with | some (.struct fs) => (fs[f]?).map fun f => (f.offset, f.type) | _ => none) = some (off, ty)) (ha : aggAt P ty = some false) (hz : (sizeAt P ty).isSome = true) : fieldA P s (.agg cs.toArray) f = cs[off]? := by
  unfold fieldA
  split at h
  · rename_i fs hs
    rw [hs]
    simp only
    cases hf : fs[f]? with
    | none => rw [hf] at h; cases h
    | some fl =>
      rw [hf] at h
      simp only [Option.map_some, Option.some.injEq, Prod.mk.injEq] at h
      obtain ⟨rfl, rfl⟩ := h
      simp [partAt, ha]
  · cases h
theorem field_many (h : (match P.underlying s with | some (.struct fs) => (fs[f]?).map fun f => (f.offset, f.type) | _ => none) = some (off, ty)) (ha : aggAt P ty = some true) (hz : sizeAt P ty = some n) : fieldA P s (.agg cs.toArray) f = some (.agg ((cs.drop off).take n).toArray) := by
  unfold fieldA
  split at h
  · rename_i fs hs
    rw [hs]
    simp only
    cases hf : fs[f]? with
    | none => rw [hf] at h; cases h
    | some fl =>
      rw [hf] at h
      simp only [Option.map_some, Option.some.injEq, Prod.mk.injEq] at h
      obtain ⟨rfl, rfl⟩ := h
      simp [partAt, ha, hz, List.extract_eq_take_drop]
  · cases h
end
/-! ### Signed slices -/
/-- A slice of one's own, element by element; its block bears a sign. -/
def Ol {α : Type} (enc : α → Value) (lab : Nat → Nat) (tag : Nat) (H : Heap) (a : Option Addr) (n c : Nat) (xs : List α) : Prop :=
  n = xs.length ∧ Own H a n c 1 (xs.map enc) ∧ ∀ j ∈ blkA a, lab j = tag
def upd (lab : Nat → Nat) (b tag : Nat) : Nat → Nat := fun j => if j = b then tag else lab j
theorem upd_at {lab : Nat → Nat} {b tag : Nat} : upd lab b tag b = tag := if_pos rfl
theorem upd_ne {lab : Nat → Nat} {b tag j : Nat} (h : j ≠ b) : upd lab b tag j = lab j := if_neg h
section
variable {α : Type} {enc : α → Value} {lab lab' : Nat → Nat} {tag : Nat} {H H' : Heap} {a : Option Addr} {n c : Nat} {xs : List α}
theorem Ol.len (h : Ol enc lab tag H a n c xs) : n = xs.length := h.1
theorem Ol.sl (h : Ol enc lab tag H a n c xs) : SlV enc H (.slice a n c) xs := by
  have := h.2.1.vw
  rw [h.1] at this ⊢
  exact this
theorem Ol.frame (h : Ol enc lab tag H a n c xs) (hl : ∀ j, j < H.n → lab' j = lab j) (hf : ∀ j, j < H.n → lab j = tag → H'.get j = H.get j) : Ol enc lab' tag H' a n c xs :=
  ⟨h.1, h.2.1.frame fun j hj => hf j (h.2.1.lt j hj) (h.2.2 j hj), fun j hj => by rw [hl j (h.2.1.lt j hj)]; exact h.2.2 j hj⟩
theorem Ol.put (h : Ol enc lab tag H a n c xs) {p : Nat} {x : Option AObj} (hp : lab p ≠ tag) : Ol enc lab tag (H.put p x) a n c xs :=
  h.frame (fun _ _ => rfl) fun j _ hj => hget_put_ne (fun e => hp (e ▸ hj))
theorem Ol.to (h : Ol enc lab tag H a n c xs) {b t' t'' : Nat} (hb : H.n ≤ b) (ht : tag ≠ t'') (hf : ∀ j, j < H.n → lab j ≠ t'' → H'.get j = H.get j) : Ol enc (upd lab b t') tag H' a n c xs :=
  h.frame (fun j hj => upd_ne (by omega)) fun j hj hjt => hf j hj (by omega)
theorem Ol.nil (H : Heap) : Ol enc lab tag H none 0 0 [] := ⟨rfl, Own.empty H 1 (by omega), fun j hj => by simp [blkA] at hj⟩
/-- All that is elder stays as it was; its sign is 9. -/
def Kp (B : Nat) (H0 : Heap) (lab : Nat → Nat) (H : Heap) : Prop := B ≤ H.n ∧ ∀ j, j < B → lab j = 9 ∧ H.get j = H0.get j
theorem Kp.put {B : Nat} {H0 : Heap} (h : Kp B H0 lab H) {p : Nat} {x : Option AObj} (hp : lab p ≠ 9) : Kp B H0 lab (H.put p x) :=
  ⟨h.1, fun j hj => ⟨(h.2 j hj).1, (hget_put_ne (fun e => hp (by rw [← e]; exact (h.2 j hj).1))).trans (h.2 j hj).2⟩⟩
theorem Kp.to {B : Nat} {H0 : Heap} (h : Kp B H0 lab H) {b t' t'' : Nat} (hb : H.n ≤ b) (ht : 9 ≠ t'') (hn : H.n ≤ H'.n) (hf : ∀ j, j < H.n → lab j ≠ t'' → H'.get j = H.get j) : Kp B H0 (upd lab b t') H' :=
  ⟨Nat.le_trans h.1 hn, fun j hj => ⟨by rw [upd_ne (by have := h.1; omega)]; exact (h.2 j hj).1, (hf j (Nat.lt_of_lt_of_le hj h.1) (by rw [(h.2 j hj).1]; exact ht)).trans (h.2 j hj).2⟩⟩
section
variable {P : Program} {prim : CallF} {Q : AExit → Fr → Heap → Prop} {dst : Option Tmp} {all l : List Oper} {k : List Item} {fr : Fr} {at_ : Array TypeId} {by_ : Nat}
/-- One more element. -/
theorem MX_app1 {x : α} {m : Nat} (ht : appTy P at_ = some (1, by_, false)) (ho : Ol enc lab tag H a n c xs) (hb : (xs.length + 1) * by_ ≤ 70368744177664) (hb2 : xs.length + 1 ≤ 70368744177664) (hv : oneV (enc x)) (hm : H.n = m)
    (K : ∀ c' H', H'.n = m + 2 → Ol enc (upd lab (m + 1) tag) tag H' (some ⟨m + 1, 0, none⟩) (n + 1) c' (xs ++ [x]) → (∀ j, j < m → lab j ≠ tag → H'.get j = H.get j) → M P prim Q (.ops all l :: k) .normal (fr.put dst (.slice (some ⟨m + 1, 0, none⟩) (n + 1) c')) H') :
    MX P prim Q (evH (appendA P at_ (.slice a n c) (.slice (some ⟨m, 0, none⟩) 1 3) (H.push (.row (.rw 1) [enc x])))) dst all l k fr (H.push (.row (.rw 1) [enc x])) := by
  subst hm
  obtain ⟨hn, hown, htag⟩ := ho
  have ho' : Own (H.push (.row (.rw 1) [enc x])) a n c 1 (xs.map enc) := hown.frame fun j hj => hget_push_lt (hown.lt j hj)
  obtain ⟨c', H', h1, h2, h3, h4⟩ := app_own (sz := 1) (m := 1) (add := [enc x]) (x := .slice (some ⟨H.n, 0, none⟩) 1 3) ht (by
      simp only [sourceA, readN, hget_push_at (H := H) (o := .row (.rw 1) [enc x]) rfl]; rfl) (by omega) rfl (by simp [hv.2]) ho' (by rw [hn]; exact hb) (by rw [hn]; exact hb2)
  rw [h1]
  have hnn : (H.push (.row (.rw 1) [enc x])).n = H.n + 1 := rfl
  rw [hnn] at h1 h2 h3 h4
  refine K c' H' h2 ⟨by simp [hn], ?_, ?_⟩ ?_
  · rw [List.map_append]; exact h3
  · intro j hj
    simp only [blkA, List.mem_singleton] at hj
    subst hj; exact upd_at
  · intro j hj hjt
    rw [h4 j (by omega) (fun hm => hjt (htag j hm)), hget_push_lt hj]
/-- More elements, out of a source. -/
theorem MX_appN {x : Value} {ys : List α} (ht : appTy P at_ = some (1, by_, false)) (hx : sourceA 1 x H = some (ys.length, ys.map enc)) (hm : 0 < ys.length) (ho : Ol enc lab tag H a n c xs) (hb : (xs.length + ys.length) * by_ ≤ 70368744177664) (hb2 : xs.length + ys.length ≤ 70368744177664) (hv : ∀ x, oneV (enc x))
    (K : ∀ c' H', H'.n = H.n + 1 → Ol enc (upd lab H.n tag) tag H' (some ⟨H.n, 0, none⟩) (n + ys.length) c' (xs ++ ys) → (∀ j, j < H.n → lab j ≠ tag → H'.get j = H.get j) → M P prim Q (.ops all l :: k) .normal (fr.put dst (.slice (some ⟨H.n, 0, none⟩) (n + ys.length) c')) H') :
    MX P prim Q (evH (appendA P at_ (.slice a n c) x H)) dst all l k fr H := by
  obtain ⟨hn, hown, htag⟩ := ho
  obtain ⟨c', H', h1, h2, h3, h4⟩ := app_own (sz := 1) (m := ys.length) (add := ys.map enc) ht hx hm (by simp) (by
      rw [List.all_eq_true]; intro y hy
      rw [List.mem_map] at hy
      obtain ⟨z, _, rfl⟩ := hy
      exact (hv z).2) hown (by rw [hn]; exact hb) (by rw [hn]; exact hb2)
  rw [h1]
  refine K c' H' h2 ⟨by simp [hn], ?_, ?_⟩ ?_
  · rw [List.map_append]; exact h3
  · intro j hj
    simp only [blkA, List.mem_singleton] at hj
    subst hj; exact upd_at
  · intro j hj hjt
    exact h4 j hj (fun hm => hjt (htag j hm))
end
end
/-! ### Calls by name -/
theorem evCall_plain {P : Program} {f : FuncId} {args : Array Value} {rest : Option ARes} (h : hasBody P f = true) : evCall P (.func (.func f) #[] #[]) args rest = some (.call f args) := by
  rw [evCall_body h]; simp
theorem evCall_captured {P : Program} {f : FuncId} {l c : List Value} {rest : Option ARes} (h : hasBody P f = true) : evCall P (.func (.func f) #[] c.toArray) l.toArray rest = some (.call f (l ++ c).toArray) := by
  rw [evCall_body h]; simp
/-! ### A result that lies in memory -/
def RC (x : Option Value) (R : Value → Heap → Prop) (H : Heap) : Prop := match x with | some v => R v H | none => False
theorem RC_some {v : Value} {R : Value → Heap → Prop} {H : Heap} : RC (some v) R H = R v H := rfl
theorem mq_retc {P : Program} {R : Value → Heap → Prop} {fr : Fr} {H : Heap} {a : Tmp} {t : TypeId} : MQ P [.cell a t] R .ret fr H = RC (loadA P t (fr.get a) H) R H := by
  refine mq_ret.trans (propext ⟨?_, ?_⟩)
  · rintro ⟨vs, h, hr⟩
    simp only [resultsA, resultA] at h
    cases hl : loadA P t (fr.get a) H with
    | none => rw [hl] at h; cases h
    | some v =>
      rw [hl] at h
      simp only [Option.some.injEq] at h
      subst h; exact hr
  · intro h
    cases hl : loadA P t (fr.get a) H with
    | none => rw [hl] at h; exact h.elim
    | some v => rw [hl] at h; exact ⟨[v], by simp [resultsA, resultA, hl], h⟩
/-! ### Structs built -/
def placesOf (P : Program) (t : TypeId) : Option (List (Nat × Nat)) := match P.underlying t with | some (.struct fields) => placesA P fields.toList | _ => none
theorem build_struct {P : Program} {t : TypeId} {parts : List (Nat × Value)} {z : List Value} {ps : List (Nat × Nat)} (hz : zeroOf P t = some z) (hp : placesOf P t = some ps) : buildA P t parts = (fillA (fun i => ps[i]?) z parts).map fun l => .agg l.toArray := by
  unfold placesOf at hp
  split at hp
  · rename_i fs hu
    simp only [buildA, hz, hu, hp]
  · cases hp
theorem fillA_nil {place : Nat → Option (Nat × Nat)} {cells : List Value} : fillA place cells [] = some cells := rfl
theorem fillA_one {place : Nat → Option (Nat × Nat)} {cells : List Value} {i off : Nat} {v : Value} {rest : List (Nat × Value)} (h : oneV v) (hp : place i = some (off, 1)) (hl : (cells[off]?).isSome = true) : fillA place cells ((i, v) :: rest) = fillA place (cells.set off v) rest := by
  have ho : off < cells.length := by
    rcases Nat.lt_or_ge off cells.length with h' | h'
    · exact h'
    · rw [List.getElem?_eq_none h'] at hl; cases hl
  simp only [fillA, hp, h.1]
  rw [show Nat.beq (#[v] : Array Value).size 1 = true from rfl, Nat.ble_eq_true_of_le (show off + (#[v] : Array Value).size ≤ cells.length by simp; omega)]
  simp only [Bool.and_self, cond_true]
  rw [set_splice ho]
def fill1 (place : Option (Nat × Nat)) (cells : List Value) (v : Value) (k : List Value → Option (List Value)) : Option (List Value) := match place with | some (off, 1) => if (cells[off]?).isSome = true then k (cells.set off v) else none | _ => none
theorem fillA_cons {place : Nat → Option (Nat × Nat)} {cells : List Value} {i off : Nat} {v : Value} {rest : List (Nat × Value)} (h : oneV v) (hp : place i = some (off, 1)) : fillA place cells ((i, v) :: rest) = fill1 (some (off, 1)) cells v fun c => fillA place c rest := by
  unfold fill1
  simp only
  by_cases hl : (cells[off]?).isSome = true
  · rw [if_pos hl, fillA_one h hp hl]
  · rw [if_neg hl]
    have ho : ¬ off < cells.length := fun h' => hl (by rw [List.getElem?_eq_getElem h']; rfl)
    simp only [fillA, hp, h.1]
    have : Nat.ble (off + (#[v] : Array Value).size) cells.length = false := by
      cases hb : Nat.ble (off + (#[v] : Array Value).size) cells.length with
      | false => rfl
      | true => have := Nat.le_of_ble_eq_true hb; simp at this; omega
    rw [this, Bool.and_false]; rfl
end Go.Ab
