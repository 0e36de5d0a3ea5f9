/-
  Slices of one's own: elements written, parts cut off and cleared. Conditions: those of each law.
-/
import Derived.Test.YtnemoodjbekngaaAbOwn
namespace Go.Ab

section
variable {P : Program} {H : Heap} {a : Option Addr} {n c : Nat} {cs : List Value} {s t e : TypeId} {x : Value}

theorem splice_in {C : List Value} {o n : Nat} {vs : List Value} {i : Nat} (h : o + n ≤ C.length) (hi : i + vs.length ≤ n) : (((splice C (o + i) vs).drop o).take n) = splice ((C.drop o).take n) i vs := by
  unfold splice
  have ht : (C.take (o + i)).length = o + i := by simp; omega
  apply List.ext_getElem?
  intro j
  simp only [List.getElem?_take, List.getElem?_drop, List.getElem?_append, List.length_take, List.length_append, List.length_drop]
  repeat' split
  all_goals first | rfl | omega | (congr 1; omega)

/-- A part of a slice of one's own is written. -/
theorem write_own {b o : Nat} {C : List Value} (hg : H.get b = some (.row (.rw 1) C)) (hc : c ≠ 0) (hcn : n ≤ c / 2) (h1 : (C.drop o).take n = cs) (h2 : o + n ≤ C.length) {i : Nat} {vs : List Value} (hi : i + vs.length ≤ n) (hone : vs.all (·.oneCell') = true) :
    ∃ H', write H b (o + i) vs = some H' ∧ H'.n = H.n ∧ Own H' (some ⟨b, o, none⟩) n c 1 (splice cs i vs) ∧ (∀ j, j ≠ b → H'.get j = H.get j) ∧ ∃ y, H' = H.put b y := by
  have hlt := Heap.lt_of_get hg
  have hl : cs.length = n := by rw [← h1, List.length_take, List.length_drop]; omega
  refine ⟨H.put b (some (.row (.rw 1) (splice C (o + i) vs))), ?_, rfl, ?_, fun j hj => hget_put_ne hj, _, rfl⟩
  · simp only [write, hg, hone, Nat.ble_eq_true_of_le (show o + i + vs.length ≤ C.length by omega), Bool.and_self, cond_true]
  · refine ⟨by rw [splice_length (by omega), hl, Nat.mul_one], by omega, hcn, .inr ⟨b, o, _, rfl, hc, hget_put_at hlt, ?_, ?_⟩⟩
    · rw [Nat.mul_one, splice_in h2 hi, h1]
    · rw [splice_length (by omega), Nat.mul_one]; exact h2
theorem Own.row (h : Own H a n c 1 cs) (hn : 0 < n) : ∃ b o C, a = some ⟨b, o, none⟩ ∧ c ≠ 0 ∧ H.get b = some (.row (.rw 1) C) ∧ (C.drop o).take n = cs ∧ o + n ≤ C.length := by
  obtain ⟨hl, hs, hcn, ⟨rfl, rfl, rfl⟩ | ⟨b, o, C, rfl, hc, hg, h1, h2⟩⟩ := h
  · omega
  · exact ⟨b, o, C, rfl, hc, hg, by simpa using h1, by simpa using h2⟩
theorem own_store (h : Own H a n c 1 cs) {i : Nat} (hi : i < n) (hs : sizeAt P e = some 1) (hx : oneV x) :
    ∃ H', storeA P e (elemPtr (.slice a n c) i 1) x H = some H' ∧ H'.n = H.n ∧ Own H' a n c 1 (cs.set i x) ∧ (∀ j, j ∉ blkA a → H'.get j = H.get j) ∧ ∀ b ∈ blkA a, ∃ y, H' = H.put b y := by
  have hl := h.1
  obtain ⟨b, o, C, rfl, hc, hg, h1, h2⟩ := h.row (by omega)
  obtain ⟨H', w1, w2, w3, w4, y, w5⟩ := write_own (c := c) hg hc h.2.2.1 h1 h2 (i := i) (vs := [x]) (by simp; omega) (by simp [hx.2])
  refine ⟨H', ?_, w2, ?_, fun j hj => w4 j (by simpa [blkA] using hj), fun b' hb' => ⟨y, ?_⟩⟩
  · simp only [storeA, elemPtr, hs, hx.1, Nat.mul_one]
    exact w1
  · rw [← set_splice (by omega)]; exact w3
  · simp only [blkA, List.mem_singleton] at hb'; subst hb'; exact w5
/-- The rest of a slice from a place on. -/
theorem slice_own_lo (h : Own H a n c 1 cs) (ht : P.underlying t = some (.slice e)) (hs : sizeAt P e = some 1) {i : Int} {k : IntKind} (h0 : 0 ≤ i) (h1 : i ≤ n) :
    ∃ a' c', evSlice P t (.slice a n c) (some (.int k i)) none none H = some (.val (.slice a' (n - i.toNat) c') H) ∧ (i < n → ∃ b o, a = some ⟨b, o, none⟩ ∧ a' = some ⟨b, o + i.toNat, none⟩) := by
  obtain ⟨hl, _, hcn, ⟨rfl, rfl, rfl⟩ | ⟨b, o, C, rfl, hc, hg, h1', h2⟩⟩ := h
  · have hi : i = 0 := by omega
    subst hi
    refine ⟨none, 0, ?_, fun h => by omega⟩
    simp [evSlice, strSliceA, sliceA, ht, hs, boundsA, boundA]
  · have hf : ¬ fitsRow H b 1 = false := by simp [fitsRow, hg, Kind.sz]
    have hb : boundsA n (c / 2) (some (.int k i)) none none = some (i.toNat, n, c / 2) := by
      simp only [boundsA, boundA]
      rw [if_pos ⟨h0, h1⟩]
    have hss : strSliceA P t (.slice (some ⟨b, o, none⟩) n c) (some (.int k i)) none none = none := by simp [strSliceA, ht]
    by_cases hm : c / 2 = i.toNat
    · refine ⟨some ⟨b, o, none⟩, (if c % 2 = 1 then 1 else 0), ?_, fun h => by omega⟩
      have hn : n = i.toNat := by omega
      simp only [evSlice, hss, sliceA, ht, hs, hb, if_neg hc, if_neg hf, Option.isSome_none, Bool.false_eq_true, or_false]
      by_cases hodd : c % 2 = 1
      · rw [if_pos hodd, if_pos hodd, if_pos hm]; simp [hm]
      · rw [if_neg hodd, if_neg hodd, if_pos hm]; simp [hn]
    · refine ⟨some ⟨b, o + i.toNat, none⟩, (if c % 2 = 1 then 2 * (c / 2 - i.toNat) + 1 else 2 * (c / 2 - i.toNat)), ?_, fun h => ⟨b, o, rfl, rfl⟩⟩
      simp only [evSlice, hss, sliceA, ht, hs, hb, if_neg hc, if_neg hf, Option.isSome_none, Bool.false_eq_true, or_false, Nat.mul_one]
      by_cases hodd : c % 2 = 1
      · rw [if_pos hodd, if_pos hodd, if_neg hm]; rfl
      · rw [if_neg hodd, if_neg hodd, if_neg hm]; rfl
/-- The beginning of a slice up to a place. -/
theorem slice_own_hi (h : Own H a n c 1 cs) (ht : P.underlying t = some (.slice e)) (hs : sizeAt P e = some 1) {i : Int} {k : IntKind} (h0 : 0 ≤ i) (h1 : i ≤ n) (hn : 0 < n) :
    ∃ c', evSlice P t (.slice a n c) none (some (.int k i)) none H = some (.val (.slice a i.toNat c') H) ∧ Own H a i.toNat c' 1 (cs.take i.toNat) := by
  have hl := h.1
  have hcn := h.2.2.1
  obtain ⟨b, o, C, rfl, hc, hg, h1', h2⟩ := h.row hn
  have hf : ¬ fitsRow H b 1 = false := by simp [fitsRow, hg, Kind.sz]
  have hb : boundsA n (c / 2) none (some (.int k i)) none = some (0, i.toNat, c / 2) := by
    simp only [boundsA, boundA]
    rw [if_pos ⟨h0, by omega⟩]
  have hss : strSliceA P t (.slice (some ⟨b, o, none⟩) n c) none (some (.int k i)) none = none := by simp [strSliceA, ht]
  have hm : c / 2 ≠ 0 := by omega
  have own : ∀ c', c' ≠ 0 → i.toNat ≤ c' / 2 → Own H (some ⟨b, o, none⟩) i.toNat c' 1 (cs.take i.toNat) := fun c' hc' hcm => by
    refine ⟨by rw [List.length_take]; omega, by omega, hcm, .inr ⟨b, o, C, rfl, hc', hg, ?_, by omega⟩⟩
    rw [← h1', List.take_take, Nat.mul_one]
    congr 1; omega
  by_cases hodd : c % 2 = 1
  · refine ⟨2 * (c / 2) + 1, ?_, own _ (by omega) (by omega)⟩
    simp only [evSlice, hss, sliceA, ht, hs, hb, if_neg hc, if_neg hf, Option.isSome_none, Bool.false_eq_true, or_false]
    rw [if_pos hodd, if_neg hm]; simp
  · refine ⟨2 * (c / 2), ?_, own _ (by omega) (by omega)⟩
    simp only [evSlice, hss, sliceA, ht, hs, hb, if_neg hc, if_neg hf, Option.isSome_none, Bool.false_eq_true, or_false]
    rw [if_neg hodd, if_neg hm]; simp
/-- The rest is cleared. -/
theorem clear_own (h : Own H a n c 1 cs) {i : Nat} {a' : Option Addr} {c' : Nat} (hi : i ≤ n) (ha : i < n → ∃ b o, a = some ⟨b, o, none⟩ ∧ a' = some ⟨b, o + i, none⟩) (he : elemAt P t = some e) (hs : sizeAt P e = some 1) {z : Value} (hz : zeroOf P e = some [z]) (hv : oneV z) :
    ∃ H', clearA P #[t] (.slice a' (n - i) c') H = some (.tuple #[], H') ∧ H'.n = H.n ∧ Own H' a n c 1 (cs.take i ++ List.replicate (n - i) z) ∧ (∀ j, j ∉ blkA a → H'.get j = H.get j) ∧ (H' = H ∨ ∀ b ∈ blkA a, ∃ y, H' = H.put b y) := by
  have hl := h.1
  by_cases hin : i < n
  · obtain ⟨b, o, rfl, rfl⟩ := ha hin
    obtain ⟨b', o', C, hab, hc, hg, h1, h2⟩ := h.row (by omega)
    simp only [Option.some.injEq, Addr.mk.injEq] at hab
    obtain ⟨rfl, rfl, _⟩ := hab
    have hz' : zerosA [z] (n - i) = List.replicate (n - i) z := by simp [zerosA]
    obtain ⟨H', w1, w2, w3, w4, y, w5⟩ := write_own (c := c) hg hc h.2.2.1 h1 h2 (i := i) (vs := List.replicate (n - i) z) (by simp; omega) (by
      rw [List.all_eq_true]; intro y hy; rw [List.mem_replicate] at hy; rw [hy.2]; exact hv.2)
    refine ⟨H', ?_, w2, ?_, fun j hj => w4 j (by simpa [blkA] using hj), .inr fun b' hb' => ⟨y, ?_⟩⟩
    · have h0 : n - i ≠ 0 := by omega
      obtain ⟨m, hm⟩ : ∃ m, n - i = m + 1 := ⟨n - i - 1, by omega⟩
      rw [hm] at w1 hz' ⊢
      simp only [clearA, List.getElem?_toArray, List.getElem?_cons_zero, Option.bind_some, he, hs, hz, hz', w1, List.length_singleton, cond_true, Option.map_some]
      simp [w1]
    · have e : splice cs i (List.replicate (n - i) z) = cs.take i ++ List.replicate (n - i) z := by
        unfold splice
        rw [List.drop_of_length_le (by simp; omega), List.append_nil]
      rw [← e]; exact w3
    · simp only [blkA, List.mem_singleton] at hb'; subst hb'; exact w5
  · have hin : i = n := by omega
    subst hin
    refine ⟨H, ?_, rfl, ?_, fun j _ => rfl, .inl rfl⟩
    · simp only [Nat.sub_self]
      cases a' with
      | none => simp [clearA, he]
      | some x => simp [clearA, he]
    · rw [Nat.sub_self, List.replicate_zero, List.append_nil, List.take_of_length_le (by omega)]; exact h
theorem sub_vw (h : Own H a n c 1 cs) {i : Nat} (hi : i < n) {a' : Option Addr} {c' : Nat} (ha : ∃ b o, a = some ⟨b, o, none⟩ ∧ a' = some ⟨b, o + i, none⟩) : Vw H (.slice a' (n - i) c') 1 (n - i) (cs.drop i) := by
  obtain ⟨b, o, rfl, rfl⟩ := ha
  have hl := h.1
  obtain ⟨b', o', C, hab, hc, hg, h1, h2⟩ := h.row (by omega)
  simp only [Option.some.injEq, Addr.mk.injEq] at hab
  obtain ⟨rfl, rfl, _⟩ := hab
  refine ⟨by rw [List.length_drop]; omega, .inr ⟨b, o + i, c', rfl, .inr ⟨_, C, hg, ?_, by omega⟩⟩⟩
  rw [← h1, List.drop_take, List.drop_drop, Nat.mul_one]
end
end Go.Ab
