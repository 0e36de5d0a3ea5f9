/-
  The abstract machine's operations against the model's: building, making, appending, copying. Conditions: those of each law.
-/
import Derived.Test.YtnemoodjbekngaaAbOps
import Derived.Laws.Append
import Derived.Laws.IdiomStrings
namespace Go.Ab
open Go.RowKit (Below)

/-! ### Parts laid into cells -/
inductive PRel (π : List Place) : List (Nat × Value) → List (Nat × Value) → Prop
  | nil : PRel π [] []
  | cons {i : Nat} {v v' : Value} {ps ps' : List (Nat × Value)} (h : VRel π v v') (k : PRel π ps ps') : PRel π ((i, v) :: ps) ((i, v') :: ps')

theorem foldl_splice : ∀ (l : List Value) (n off : Nat) (C : Array Value), (l.zipIdx n).foldl (fun cs x => cs.setIfInBounds (off + x.2) x.1) C = spliceA C (off + n) l
  | [], _, _, _ => rfl
  | v :: r, n, off, C => by
    simp only [List.zipIdx_cons, List.foldl_cons, spliceA]
    rw [foldl_splice r (n + 1) off]
    rfl

theorem fill_run {π : List Place} (place : Nat → Option (Nat × Nat)) : ∀ (ps ps' : List (Nat × Value)) (cells : List Value) (C : Array Value) (r : List Value), PRel π ps ps' → LRel π cells C.toList → fillA place cells ps = some r →
    ∃ R, Instr.fill place C ps' = some R ∧ LRel π r R.toList ∧ r.length = cells.length
  | [], _, cells, C, r, hp, hc, h => by
    cases hp
    simp only [fillA, Option.some.injEq] at h
    subst h
    exact ⟨C, rfl, hc, rfl⟩
  | (i, v) :: ps, _, cells, C, r, hp, hc, h => by
    cases hp with
    | cons hv hr =>
      rename_i v' ps'
      simp only [fillA] at h
      cases hpl : place i with
      | none => rw [hpl] at h; cases h
      | some os =>
        obtain ⟨off, size⟩ := os
        rw [hpl] at h
        simp only at h
        cases hb : (Nat.beq v.cells.size size && Nat.ble (off + v.cells.size) cells.length) with
        | false => rw [hb] at h; cases h
        | true =>
          rw [hb] at h
          simp only [Bool.and_eq_true] at hb
          have h1 : v.cells.size = size := Nat.eq_of_beq_eq_true hb.1
          have h2 : off + v.cells.size ≤ cells.length := Nat.le_of_ble_eq_true hb.2
          have hvc := hv.cells
          have h3 : v'.cells.size = v.cells.size := by have := hvc.1; rw [Array.length_toList, Array.length_toList] at this; exact this.symm
          have hC : C.size = cells.length := by have := hc.1; rw [Array.length_toList] at this; exact this.symm
          have hsp : LRel π (splice cells off v.cells.toList) (spliceA C off v'.cells.toList).toList := by
            refine ⟨by rw [splice_length (by simpa using h2)]; show _ = (spliceA C off v'.cells.toList).toList.length; rw [Array.length_toList (xs := spliceA C off v'.cells.toList), spliceA_size, hC], fun j hj => ?_⟩
            rw [splice_length (by simpa using h2)] at hj
            rw [splice_get (by simpa using h2), ← arr_getD_toList (spliceA C off v'.cells.toList), spliceA_get _ _ _ _ (by rw [Array.length_toList]; omega)]
            simp only [Array.length_toList, h3]
            by_cases hjj : off ≤ j ∧ j < off + v.cells.size
            · rw [if_pos hjj, if_pos hjj]
              exact hvc.2 _ (by rw [Array.length_toList]; omega)
            · rw [if_neg hjj, if_neg hjj, arr_getD_toList]
              exact hc.2 j hj
          obtain ⟨R, hR, hrel, hlen⟩ := fill_run place ps ps' _ _ r hr hsp h
          refine ⟨R, ?_, hrel, by rw [hlen, splice_length (by simpa using h2)]⟩
          simp only [Instr.fill, hpl]
          have hcond : (v'.cells.size ≠ size || decide (off + v'.cells.size > C.size)) = false := by
            simp only [Bool.or_eq_false_iff, decide_eq_false_iff_not]
            exact ⟨by omega, by omega⟩
          rw [hcond]
          simp only [Bool.false_eq_true, if_false]
          have e : (v'.cells.zipIdx.foldl (fun cs x => cs.setIfInBounds (off + x.2) x.1) C) = spliceA C off v'.cells.toList := by
            rw [← Array.foldl_toList, Array.toList_zipIdx, foldl_splice, Nat.add_zero]
          rw [← hR]
          congr 1

theorem zeros_list (z : Array Value) (len : Nat) : ((Array.range (len * z.size)).map (z[· % z.size]!)).toList = zerosA z.toList len := by
  induction len with
  | zero => simp [zerosA]
  | succ len ih =>
    have e : (len + 1) * z.size = z.size + len * z.size := by rw [Nat.add_mul, Nat.one_mul, Nat.add_comm]
    have hz : zerosA z.toList (len + 1) = z.toList ++ zerosA z.toList len := by simp [zerosA, List.replicate_succ]
    rw [hz, ← ih, e]
    simp only [Array.toList_map, Array.toList_range, List.range_add, List.map_append, List.map_map]
    congr 1
    · apply List.ext_getElem
      · simp
      · intro i h1 h2
        have hi : i < z.size := by simpa using h2
        simp [Nat.mod_eq_of_lt hi, hi]
    · apply List.map_congr_left
      intro i hi
      simp [Nat.add_mod_left]
theorem zerosA_length (z : List Value) (n : Nat) : (zerosA z n).length = n * z.length := by simp [zerosA]
theorem flatL_append : ∀ (a b : List Value), flatL a = true → flatL b = true → flatL (a ++ b) = true
  | [], _, _, h => h
  | x :: a, b, h, k => by
    simp only [flatL, List.cons_append, Bool.and_eq_true] at *
    exact ⟨h.1, flatL_append a b h.2 k⟩
theorem zerosA_flat {z : List Value} (h : flatL z = true) : ∀ n, flatL (zerosA z n) = true
  | 0 => by simp [zerosA, flatL]
  | n + 1 => by
    have : zerosA z (n + 1) = z ++ zerosA z n := by simp [zerosA, List.replicate_succ]
    rw [this]
    exact flatL_append _ _ h (zerosA_flat h n)

section
variable {P : Program} {w0 : World} {π : List Place} {H : Heap} {w : World}

theorem places_eq : ∀ (fs : List Field) (ps : List (Nat × Nat)), placesA P fs = some ps → fs.mapM (fun f => (P.info? f.type).map fun i => (f.offset, i.size)) = some ps
  | [], ps, h => by simp only [placesA, Option.some.injEq] at h; subst h; rfl
  | f :: fs, ps, h => by
    simp only [placesA] at h
    split at h
    · rename_i n r hn hr
      obtain rfl := Option.some.inj h
      have ih := places_eq fs r hr
      unfold sizeAt at hn
      cases hi : P.info? f.type with
      | none => rw [hi] at hn; cases hn
      | some i =>
        rw [hi] at hn
        simp only [Option.map_some, Option.some.injEq] at hn
        simp [List.mapM_cons, hi, ih, hn]
    · cases h

theorem build_run {t : TypeId} {ps : List (Nat × Value)} {ps' : Array (Nat × Value)} {v : Value} (h : buildA P t ps = some v) (hp : PRel π ps ps'.toList) (w : World) :
    ∃ v', (Instr.build t ps').run P w = .ok v' w ∧ VRel π v v' := by
  unfold buildA at h
  split at h
  · rename_i z fields hz hu
    obtain ⟨i, zv, hi, hzz, rfl, hfl⟩ := zeroOf_run hz
    split at h
    · rename_i pl hpl
      cases hf : fillA (pl[·]?) zv.cells.toList ps with
      | none => rw [hf] at h; cases h
      | some l =>
        rw [hf] at h
        obtain rfl := Option.some.inj h
        obtain ⟨R, hR, hrel, _⟩ := fill_run (pl[·]?) ps ps'.toList _ zv.cells l hp (LRel.of_flat hfl) hf
        refine ⟨.agg R, run_build w t ps' R ?_, .agg _ _ (by simpa using hrel.1) (fun j hj => by have := hrel.2 j (by simpa using hj); rwa [arr_getD_toList, arr_getD_toList])⟩
        unfold Program.built
        rw [hi, hu]
        simp only [hzz, places_eq _ _ hpl]
        simpa using hR
    · cases h
  · rename_i z n e hz hu
    obtain ⟨i, zv, hi, hzz, rfl, hfl⟩ := zeroOf_run hz
    split at h
    · rename_i n hn
      cases hf : fillA (fun i => some (i * n, n)) zv.cells.toList ps with
      | none => rw [hf] at h; cases h
      | some l =>
        rw [hf] at h
        obtain rfl := Option.some.inj h
        obtain ⟨R, hR, hrel, _⟩ := fill_run (fun i => some (i * n, n)) ps ps'.toList _ zv.cells l hp (LRel.of_flat hfl) hf
        refine ⟨.agg R, run_build w t ps' R ?_, .agg _ _ (by simpa using hrel.1) (fun j hj => by have := hrel.2 j (by simpa using hj); rwa [arr_getD_toList, arr_getD_toList])⟩
        unfold sizeAt at hn
        unfold Program.built
        rw [hi, hu]
        cases hie : P.info? e with
        | none => rw [hie] at hn; cases hn
        | some ie =>
          rw [hie] at hn
          simp only [Option.map_some, Option.some.injEq] at hn
          simp only [hzz, hie, hn]
          exact hR
    · cases h
  · cases h

theorem elemAt_eq {t e : TypeId} (h : elemAt P t = some e) : P.underlying t = some (.slice e) := by
  unfold elemAt at h
  split at h
  · rename_i e' hu; obtain rfl := Option.some.inj h; exact hu
  · cases h
theorem sizeAt_eq {t : TypeId} {n : Nat} (h : sizeAt P t = some n) : ∃ i, P.info? t = some i ∧ i.size = n := by
  unfold sizeAt at h
  cases hi : P.info? t with
  | none => rw [hi] at h; cases h
  | some i => rw [hi] at h; simp only [Option.map_some, Option.some.injEq] at h; exact ⟨i, rfl, h⟩

theorem buildSlice_run (hR : HRel w0 π H w) {t : TypeId} {len : Nat} {ps : List (Nat × Value)} {ps' : Array (Nat × Value)} {v : Value} {H' : Heap} (h : buildSliceA P t len ps H = some (v, H')) (hp : PRel π ps ps'.toList) :
    ∃ π' v' w', PLe π π' ∧ (Instr.buildSlice t len ps').run P w = .ok v' w' ∧ VRel π' v v' ∧ HRel w0 π' H' w' := by
  unfold buildSliceA at h
  split at h
  · rename_i e he
    split at h
    · rename_i n z hn hz
      obtain ⟨i, zv, hi, hzz, rfl, hfl⟩ := zeroOf_run hz
      cases hb : (Nat.beq zv.cells.toList.length n && Nat.ble (len * n) 16777216) with
      | false => rw [hb] at h; cases h
      | true =>
        rw [hb] at h
        simp only [Bool.and_eq_true] at hb
        have hzn : zv.cells.size = n := by have := Nat.eq_of_beq_eq_true hb.1; simpa using this
        have hle : len * n ≤ 16777216 := Nat.le_of_ble_eq_true hb.2
        cases hf : fillA (fun i => some (i * n, n)) (zerosA zv.cells.toList len) ps with
        | none => rw [hf] at h; cases h
        | some l =>
          rw [hf] at h
          simp only [cond_true, Option.map_some, Option.some.injEq, Prod.mk.injEq] at h
          obtain ⟨rfl, rfl⟩ := h
          have hzl := zeros_list zv.cells len
          rw [hzn] at hzl
          have hrel0 : LRel π (zerosA zv.cells.toList len) ((Array.range (len * n)).map (zv.cells[· % zv.cells.size]!)).toList := by
            rw [hzn, hzl]; exact LRel.of_flat (zerosA_flat hfl len)
          obtain ⟨R, hfR, hrel, hlen⟩ := fill_run (fun i => some (i * n, n)) ps ps'.toList _ ((Array.range (len * n)).map (zv.cells[· % zv.cells.size]!)) l hp hrel0 hf
          have hRs : R.size = len * n := by have := hrel.1; rw [hlen, zerosA_length, Array.length_toList, Array.length_toList, hzn] at this; exact this.symm
          refine ⟨_, .slice (some ⟨w.heap.size, 0, none⟩) len len, w.alloc (.cells R e), PLe.push _ _, ?_, newSlice hR (capOk_exact _) (by omega) (.inr (by omega)), push_row hR n (C := R) (e := e) (fz := (0, 0)) (by have := hrel.1; rw [Array.length_toList] at this; exact Nat.le_of_eq this) (fun j hj => by have := hrel.2 j hj; rwa [arr_getD_toList]) (fun j _ => by omega) rfl rfl rfl rfl⟩
          have hnle : ¬ (len * n > 2 ^ 24) := by omega
          by_cases h0 : len * n = 0
          · have hfR' : Instr.fill (fun i => some (i * n, n)) #[] ps'.toList = some R := by
              have : ((Array.range (len * n)).map (zv.cells[· % zv.cells.size]!)) = #[] := by rw [h0]; simp
              rw [this] at hfR; exact hfR
            simp only [Instr.buildSlice, Sem.run_bind, run_underlying (elemAt_eq he), Result.andThen, sizeAt_run hn, if_neg hnle, if_pos h0, Sem.run_pure]
            rw [h0]
            have e0 : ∀ z : Array Value, ((Array.range 0).map (z[· % z.size]!)) = #[] := fun z => by simp
            rw [e0, hfR']
            rfl
          · simp only [Instr.buildSlice, Sem.run_bind, run_underlying (elemAt_eq he), Result.andThen, sizeAt_run hn, if_neg hnle, if_neg h0, Sem.run_pure, zeroValue, typeInfo, run_program, hi, hzz]
            rw [hfR]
            rfl
    · cases h
  · cases h

theorem makeSlice_run (hR : HRel w0 π H w) {t : TypeId} {l c : Value} {v : Value} {H' : Heap} (h : makeSliceA P t l c H = some (v, H')) :
    ∃ π' v' w', PLe π π' ∧ (Instr.makeSlice t l c).run P w = .ok v' w' ∧ VRel π' v v' ∧ HRel w0 π' H' w' := by
  unfold makeSliceA at h
  split at h
  · rename_i e kl l kc c he
    split at h
    · rename_i i z hi hz
      obtain ⟨i', zv, hi', hzz, rfl, hfl⟩ := zeroOf_run hz
      rw [hi] at hi'
      cases hi'
      split at h
      · rename_i hc
        obtain ⟨hzn, h0, hlc, hby, h63⟩ := hc
        rw [Array.length_toList] at hzn
        simp only [Option.some.injEq, Prod.mk.injEq] at h
        obtain ⟨rfl, rfl⟩ := h
        have hrun := run_make (P := P) w t e i zv (elemAt_eq he) hi hzz kl kc l c h0 hlc (by rw [Int.mul_comm]; exact hby) h63
        have hzl := zeros_list zv.cells c.toNat
        refine ⟨_, _, _, PLe.push _ _, hrun, newSlice hR (S := (madeCells zv.cells (c.toNat * i.size)).size) (sz := i.size) (capOk_exact _) (by omega) (.inr (by rw [size_madeCells]; exact Nat.le_refl _)), push_row hR i.size (C := madeCells zv.cells (c.toNat * i.size)) (e := e) (fz := (0, 0)) ?_ ?_ (fun j _ => by omega) rfl rfl rfl rfl⟩
        · rw [size_madeCells, zerosA_length, Array.length_toList, hzn]; exact Nat.le_refl _
        · intro j hj
          rw [arr_getD_toList, madeCells, ← hzn, hzl]
          exact flatL_refl _ _ (zerosA_flat hfl _) j hj
      · cases h
    · cases h
  · cases h
end
end Go.Ab
