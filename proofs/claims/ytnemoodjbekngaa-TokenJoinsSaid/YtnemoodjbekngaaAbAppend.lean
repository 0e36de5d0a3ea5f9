/-
  The abstract machine's operations against the model's: append, copy, clear, len, conversions, nil. Conditions: those of each law.
-/
import Derived.Test.YtnemoodjbekngaaAbMake
namespace Go.Ab
open Go.RowKit (Below)

theorem growBy_le (need : Nat) : ∀ (r c : Nat), c ≤ 2 * need + 768 → Builtin.growBy need r c ≤ 2 * need + 768
  | 0, c, h => by simpa [Builtin.growBy] using h
  | r + 1, c, h => by
    simp only [Builtin.growBy]
    split
    · exact h
    · exact growBy_le need r _ (by omega)
theorem nextslicecap_le {need old : Nat} (h : old < need) : Builtin.nextslicecap need old ≤ 2 * need + 768 := by
  unfold Builtin.nextslicecap
  split
  · omega
  · split
    · omega
    · exact growBy_le _ _ _ (by omega)
theorem nextcap_fits {need old bytes : Nat} (h : old < need) (hb : need * bytes ≤ 70368744177664) (hb2 : bytes ≤ 1048576) : ¬ (Builtin.nextslicecap need old * bytes > 2 ^ 48) := by
  have h1 := nextslicecap_le h
  have h2 : Builtin.nextslicecap need old * bytes ≤ (2 * need + 768) * bytes := Nat.mul_le_mul_right _ h1
  have h3 : (2 * need + 768) * bytes = 2 * (need * bytes) + 768 * bytes := by rw [Nat.add_mul, Nat.mul_assoc]
  have h4 : 768 * bytes ≤ 768 * 1048576 := Nat.mul_le_mul_left _ hb2
  omega

theorem byteCells_length (s : ByteArray) : (byteCells s).length = s.size := by simp [byteCells]
theorem flatL_map_int (l : List UInt8) : flatL (l.map fun b => Value.int .u8 b.toNat) = true := by
  induction l with
  | nil => rfl
  | cons b l ih => simp [flatL, flat, ih]
theorem byteCells_flat (s : ByteArray) : flatL (byteCells s) = true := flatL_map_int _

section
variable {P : Program} {w0 : World} {π : List Place} {H : Heap} {w : World}

theorem cell_same {w W : World} (hW : W.heap = w.heap) (a : Addr) : W.cell? a = w.cell? a := by simp [World.cell?, hW]

/-- What is appended or copied. -/
theorem source_run (hR : HRel w0 π H w) {size : Nat} {x x' : Value} {n : Nat} {add : List Value} (h : sourceA size x H = some (n, add)) (hx : VRel π x x') :
    ∃ add', add.length = n * size ∧ LRel π add add' ∧ (∀ W : World, (Builtin.lenOf x').run P W = .ok n W) ∧
      (∀ W : World, W.heap = w.heap → (Builtin.firstCells size n x').run P W = .ok add'.toArray W) ∧
      (∀ k W, k ≤ n → W.heap = w.heap → (Builtin.firstCells size k x').run P W = .ok (add'.take (k * size)).toArray W) := by
  unfold sourceA at h
  split at h
  · simp only [Option.some.injEq, Prod.mk.injEq] at h
    obtain ⟨rfl, rfl⟩ := h
    cases hx
    exact ⟨[], by simp, LRel.nil _, fun W => by simp [Builtin.lenOf], fun W _ => by simp [Builtin.firstCells], fun k W _ _ => by simp [Builtin.firstCells]⟩
  · simp only [Option.some.injEq, Prod.mk.injEq] at h
    obtain ⟨rfl, rfl⟩ := h
    have key : ∀ (a : Addr) (c : Nat), ∃ add' : List Value, ([] : List Value).length = 0 * size ∧ LRel π [] add' ∧ (∀ W : World, (Builtin.lenOf (.slice (some a) 0 c)).run P W = .ok 0 W) ∧
      (∀ W : World, W.heap = w.heap → (Builtin.firstCells size 0 (.slice (some a) 0 c)).run P W = .ok add'.toArray W) ∧
      (∀ k W, k ≤ 0 → W.heap = w.heap → (Builtin.firstCells size k (.slice (some a) 0 c)).run P W = .ok (add'.take (k * size)).toArray W) := by
      intro a c
      refine ⟨[], by simp, LRel.nil _, fun W => by simp [Builtin.lenOf], fun W _ => by simp [Builtin.firstCells, loadCells, loadCellsFrom], fun k W hk _ => ?_⟩
      obtain rfl : k = 0 := by omega
      simp [Builtin.firstCells, loadCells, loadCellsFrom]
    cases hx with
    | sl => exact key _ _
    | slEmpty => exact key _ _
  · rename_i b o n' c _
    cases hr : readN H b o (n' * size) with
    | none => rw [hr] at h; cases h
    | some l =>
      rw [hr] at h
      simp only [Option.map_some, Option.some.injEq, Prod.mk.injEq] at h
      obtain ⟨rfl, rfl⟩ := h
      cases hx with
      | sl b o len c cap' p hp hc hl hr0 =>
        obtain ⟨l', hlen, hrel, hcell⟩ := readN_run hR hr hp
        have hall : ∀ k W, k ≤ n' → W.heap = w.heap → (Builtin.firstCells size k (.slice (some ⟨p.B, p.d + o, none⟩) n' cap')).run P W = .ok (l'.take (k * size)).toArray W := by
          intro k W hk hW
          have hkl : k * size ≤ l'.length := by rw [← hrel.1, hlen]; exact Nat.mul_le_mul_right _ hk
          refine run_firstCells_some (P := P) W size k _ n' cap' (l'.take (k * size)) (by simp; omega) (fun j v hv => ?_)
          have hj : j < k * size := by
            rcases Nat.lt_or_ge j (k * size) with h1 | h1
            · exact h1
            · rw [List.getElem?_eq_none (by simp; omega)] at hv; cases hv
          rw [List.getElem?_take_of_lt hj] at hv
          rw [cell_same hW]; exact hcell j v hv
        refine ⟨l', hlen, hrel, fun W => by simp [Builtin.lenOf], fun W hW => ?_, hall⟩
        have := hall n' W (Nat.le_refl _) hW
        rwa [List.take_of_length_le (by rw [← hrel.1, hlen]; exact Nat.le_refl _)] at this
      | slEmpty a a' cap' => 
        have : ∃ add', l.length = 0 * size ∧ LRel π l add' ∧ (∀ W : World, (Builtin.lenOf (.slice (some a') 0 cap')).run P W = .ok 0 W) ∧
          (∀ W : World, W.heap = w.heap → (Builtin.firstCells size 0 (.slice (some a') 0 cap')).run P W = .ok add'.toArray W) ∧
          (∀ k W, k ≤ 0 → W.heap = w.heap → (Builtin.firstCells size k (.slice (some a') 0 cap')).run P W = .ok (add'.take (k * size)).toArray W) := by
          have hl0 : l = [] := by
            rw [Nat.zero_mul] at hr
            unfold readN at hr
            split at hr
            · cases hb : Nat.ble (o + 0) (‹List Value›).length with
              | false => rw [hb] at hr; cases hr
              | true => rw [hb] at hr; simpa using (Option.some.inj hr).symm
            · cases hr
          subst hl0
          refine ⟨[], by simp, LRel.nil _, fun W => by simp [Builtin.lenOf], fun W _ => by simp [Builtin.firstCells, loadCells, loadCellsFrom], fun k W hk _ => ?_⟩
          obtain rfl : k = 0 := by omega
          simp [Builtin.firstCells, loadCells, loadCellsFrom]
        exact this
  · rename_i s
    cases hb : Nat.beq size 1 with
    | false => rw [hb] at h; cases h
    | true =>
      rw [hb] at h
      simp only [cond_true, Option.some.injEq, Prod.mk.injEq] at h
      obtain ⟨rfl, rfl⟩ := h
      obtain rfl : size = 1 := Nat.eq_of_beq_eq_true hb
      cases hx
      have hall : ∀ k W, k ≤ s.size → (Builtin.firstCells 1 k (.string s)).run P W = .ok ((byteCells s).take (k * 1)).toArray W := by
        intro k W hk
        simp only [Builtin.firstCells, Sem.run_pure]
        congr 1
        apply Array.ext'
        simp [byteCells, List.map_take]
      refine ⟨byteCells s, by simp [byteCells_length], LRel.of_flat (byteCells_flat s), fun W => by simp [Builtin.lenOf], fun W _ => ?_, fun k W hk _ => hall k W hk⟩
      have := hall s.size W (Nat.le_refl _)
      rwa [Nat.mul_one, List.take_of_length_le (by rw [byteCells_length]; exact Nat.le_refl _)] at this
  · cases h

theorem capOk_le {c cap' : Nat} (h : capOk c cap') : c / 2 ≤ cap' := by unfold capOk at h; split at h <;> omega

theorem LRel.zeros {z : List Value} (h : flatL z = true) (n : Nat) : LRel π (zerosA z n) (zerosA z n) := LRel.of_flat (zerosA_flat h n)

/-- A list of cells ahead of a new row's rest. -/
theorem push_cells (hR : HRel w0 π H w) {cells cells' : List Value} (hc : LRel π cells cells') (rest : Array Value) (e : TypeId) (sz : Nat) : HRel w0 (π ++ [newPlace w (cells'.toArray ++ rest).size sz]) (H.push (.row (.rw sz) cells)) (w.alloc (.cells (cells'.toArray ++ rest) e)) := by
  refine push_row hR sz (C := cells'.toArray ++ rest) (e := e) (fz := (0, 0)) ?_ ?_ (fun j _ => by omega) rfl rfl rfl rfl
  · have := hc.1; simp; omega
  · intro j hj
    have hj' : j < cells'.length := by rw [← hc.1]; exact hj
    have := hc.2 j hj
    simpa [Array.getD_eq_getD_getElem?, List.getD_eq_getElem?_getD, Array.getElem?_append, hj'] using this

/-- The int that stands for so many zero values, in the type's description. -/
def isIntD : TypeDesc → Bool
  | .int _ => true
  | _ => false

theorem appSource_run (hR : HRel w0 π H w) {i : TypeInfo} {z : List Value} {d : TypeDesc} {x x' : Value} {n : Nat} {add : List Value} (h : appSourceA i z d x H = some (n, add)) (hx : VRel π x x') :
    (isIntD d = false ∧ ∃ add', LRel π add add' ∧ add.length = n * i.size ∧ (∀ W : World, (Builtin.lenOf x').run P W = .ok n W) ∧ (∀ W : World, W.heap = w.heap → (Builtin.firstCells i.size n x').run P W = .ok add'.toArray W)) ∨
    (isIntD d = true ∧ ∃ k m, x' = .int k m ∧ 0 ≤ m ∧ m * i.bytes ≤ 70368744177664 ∧ m ≤ 70368744177664 ∧ m.toNat = n ∧ add = zerosA z n ∧ z.length = i.size ∧ 0 < i.size) := by
  unfold appSourceA at h
  split at h
  · split at h
    · rename_i k m
      split at h
      · rename_i hc
        simp only [Option.some.injEq, Prod.mk.injEq] at h
        obtain ⟨rfl, rfl⟩ := h
        cases hx
        exact .inr ⟨rfl, k, m, rfl, hc.1, hc.2.1, hc.2.2.1, rfl, rfl, hc.2.2.2.1, hc.2.2.2.2⟩
      · cases h
    · cases h
  · rename_i hd
    obtain ⟨add', hl, hrel, h1, h2, _⟩ := source_run (P := P) hR h hx
    refine .inl ⟨?_, add', hrel, hl, h1, h2⟩
    cases d <;> first | rfl | exact (hd _ rfl).elim

/-- The model's append, step by step: what is appended is read in any world with these blocks. -/
theorem append_steps {ats : Array TypeId} {ty : TypeId} {args : Array Value} {t0 t1 e : TypeId} {d : TypeDesc} {i : TypeInfo} {zv : Value} {base : Option Addr} {sLen sCap n : Nat} {x' : Value} {add' : List Value}
    (ht0 : ats[0]? = some t0) (hu : P.underlying t0 = some (.slice e)) (ht1 : ats[1]? = some t1) (hd : P.underlying t1 = some d) (hi : P.info? e = some i) (hzz : i.zero = some zv)
    (ha0 : args[0]? = some (.slice base sLen sCap)) (ha1 : args[1]? = some x')
    (src : (isIntD d = false ∧ (∀ W : World, (Builtin.lenOf x').run P W = .ok n W) ∧ (∀ W : World, W.heap = w.heap → (Builtin.firstCells i.size n x').run P W = .ok add'.toArray W)) ∨
      (isIntD d = true ∧ ∃ k m, x' = .int k m ∧ 0 ≤ m ∧ m * i.bytes ≤ 70368744177664 ∧ m ≤ 70368744177664 ∧ m.toNat = n ∧ add' = zerosA zv.cells.toList n ∧ zv.cells.size = i.size ∧ 0 < i.size)) :
    (sLen + n ≤ sCap → (Builtin.append_ ats ty args).run P w = ((match base with | some a => storeCells (a.add (sLen * i.size)) add' | none => pure ()).run P w).andThen fun _ w => .ok (.slice base (sLen + n) sCap) w) ∧
    (∀ old : List Value, 0 < n → sCap < sLen + n → (sLen + n) * i.bytes ≤ 70368744177664 → sLen + n ≤ 70368744177664 → i.bytes ≤ 1048576 → (Builtin.firstCells i.size sLen (.slice base sLen sCap)).run P w.drew = .ok old.toArray w.drew →
      ∃ (newCap : Nat) (rest : Array Value), sLen + n ≤ newCap ∧ rest.size = (newCap - (sLen + n)) * zv.cells.size ∧ (Builtin.append_ ats ty args).run P w = .ok (.slice (some ⟨w.heap.size, 0, none⟩) (sLen + n) newCap) (w.drew.alloc (.cells (old.toArray ++ (add'.toArray ++ rest)) e))) := by
  have hsz : ∀ W : World, (sizeOf e).run P W = .ok i.size W := fun W => by simp [sizeOf, typeInfo, hi]
  have hzv : ∀ W : World, (zeroValue e).run P W = .ok zv W := fun W => by simp [zeroValue, typeInfo, hi, hzz]
  have hti : ∀ W : World, (typeInfo e).run P W = .ok i W := fun W => by simp [typeInfo, hi]
  have hzc : ∀ k, Builtin.zeroCells zv.cells k = (zerosA zv.cells.toList k).toArray := fun k => by
    apply Array.ext'
    have := zeros_list zv.cells k
    simpa [Builtin.zeroCells] using this
  constructor
  · intro hfit
    rcases src with ⟨hf, hl, hc⟩ | ⟨hf, k, m, rfl, h0, hb, hm, hmn, rfl, hzs, hpos⟩
    · have e1 := hl w
      have e2 := hc w rfl
      cases d <;> first
        | (simp [isIntD] at hf; done)
        | (simp only [Builtin.append_, ht0, ha0, ha1, ht1, Sem.run_bind, run_underlying hu, run_underlying hd, hsz, e1, Result.andThen, Sem.run_pure]
           simp only [Bool.false_eq_true, if_false, e1, Result.andThen, Bool.not_false, if_true, if_pos hfit, e2, Sem.run_bind]
           cases base <;> simp [Result.andThen])
    · have hw : IntKind.i64.wrap m = m := by rw [IntKind.wrap_i64]; omega
      have hz0 : n * i.size = 0 → zerosA zv.cells.toList n = [] := fun h => by
        have : n = 0 := by rcases Nat.mul_eq_zero.1 h with h | h <;> omega
        subst this; rfl
      cases d <;> first
        | (simp [isIntD] at hf; done)
        | (simp only [Builtin.append_, ht0, ha0, ha1, ht1, Sem.run_bind, run_underlying hu, run_underlying hd, hsz, Result.andThen, Sem.run_pure]
           simp [asInt, asIntOf, hw, show ¬ m < 0 by omega, typeInfo, hi, show ¬ (281474976710656 < m * (i.bytes : Int)) by omega, hmn, hfit, Result.andThen]
           by_cases hn0 : n * i.size = 0
           · rw [if_pos hn0, hz0 hn0]
             cases base <;> simp [storeCells, Result.andThen]
           · rw [if_neg hn0]
             cases base <;> simp [zeroValue, typeInfo, hi, hzz, hzc, Result.andThen])
  · intro old hnp hgt hb hn hby hold
    have hnf : ¬ (sLen + n ≤ sCap) := by omega
    have h63 : ¬ (((sLen + n : Nat) : Int) > IntKind.i64.max) := by
      have : IntKind.i64.max = 9223372036854775807 := by decide
      omega
    have hcap := nextcap_fits hgt hb hby
    have h63' : ¬ (9223372036854775807 < (sLen : Int) + (n : Int)) := by omega
    have hcap' : ¬ (281474976710656 < Builtin.nextslicecap (sLen + n) sCap * i.bytes) := hcap
    refine ⟨grownCap w (sLen + n) sCap e, Builtin.zeroCells zv.cells (grownCap w (sLen + n) sCap e - (sLen + n)), by simp [grownCap, Question.cut], by simp [Builtin.zeroCells], ?_⟩
    rcases src with ⟨hf, hl, hc⟩ | ⟨hf, k, m, rfl, h0, hb, hm, hmn, rfl, hzs, hpos⟩
    · have e1 := hl w
      have e2 := hc w.drew rfl
      cases d <;> first
        | (simp [isIntD] at hf; done)
        | (simp only [Builtin.append_, ht0, ha0, ha1, ht1, Sem.run_bind, run_underlying hu, run_underlying hd, hsz, Result.andThen, Sem.run_pure]
           simp only [Bool.false_eq_true, if_false, e1, Result.andThen, Bool.not_false, if_true, if_neg hnf, Sem.run_bind, hti, false_or]
           simp [h63', hcap', Question.forced, hold, e2, newRow, grownCap, Result.andThen, typeInfo, zeroValue, hi, hzz]
           rfl)
    · have hw : IntKind.i64.wrap m = m := by rw [IntKind.wrap_i64]; omega
      have hn0 : ¬ (n * i.size = 0) := by
        intro h
        rcases Nat.mul_eq_zero.1 h with h | h
        · omega
        · omega
      cases d <;> first
        | (simp [isIntD] at hf; done)
        | (simp only [Builtin.append_, ht0, ha0, ha1, ht1, Sem.run_bind, run_underlying hu, run_underlying hd, hsz, Result.andThen, Sem.run_pure]
           simp [asInt, asIntOf, hw, show ¬ m < 0 by omega, typeInfo, hi, show ¬ (281474976710656 < m * (i.bytes : Int)) by omega, hmn, if_neg hnf, Result.andThen]
           have hmx : ¬ (9223372036854775807 < (sLen : Int) + max m 0) := by rw [Int.max_eq_left h0]; omega
           simp [hmx, hcap', hn0, Question.forced, hold, newRow, grownCap, Result.andThen, typeInfo, zeroValue, hi, hzz, hzc]
           rfl)

theorem append_run (hR : HRel w0 π H w) {ats : Array TypeId} {s s' x x' : Value} {ty : TypeId} {args : Array Value} {v : Value} {H' : Heap} (h : appendA P ats s x H = some (v, H'))
    (hs : VRel π s s') (hx : VRel π x x') (ha0 : args[0]? = some s') (ha1 : args[1]? = some x') :
    ∃ π' v' w', PLe π π' ∧ (Builtin.append_ ats ty args).run P w = .ok v' w' ∧ VRel π' v v' ∧ HRel w0 π' H' w' := by
  unfold appendA at h
  split at h
  · rename_i e d he hd
    obtain ⟨t0, ht0, he⟩ := Option.bind_eq_some_iff.1 he
    obtain ⟨t1, ht1, hd⟩ := Option.bind_eq_some_iff.1 hd
    have hu := elemAt_eq he
    split at h
    · rename_i i z hi hz
      obtain ⟨i', zv, hi', hzz, rfl, hfl⟩ := zeroOf_run hz
      rw [hi] at hi'
      cases hi'
      split at h
      · cases h
      · rename_i n add hsrc
        have SRC : ∃ add', LRel π add add' ∧ add.length = n * i.size ∧ ((isIntD d = false ∧ (∀ W : World, (Builtin.lenOf x').run P W = .ok n W) ∧ (∀ W : World, W.heap = w.heap → (Builtin.firstCells i.size n x').run P W = .ok add'.toArray W)) ∨
            (isIntD d = true ∧ ∃ k m, x' = .int k m ∧ 0 ≤ m ∧ m * i.bytes ≤ 70368744177664 ∧ m ≤ 70368744177664 ∧ m.toNat = n ∧ add' = zerosA zv.cells.toList n ∧ zv.cells.size = i.size ∧ 0 < i.size)) := by
          rcases appSource_run (P := P) hR hsrc hx with ⟨h1, add', h2, h3, h4, h5⟩ | ⟨h1, k, m, h2, h3, h4, h5, h6, h7, h8, h9⟩
          · exact ⟨add', h2, h3, .inl ⟨h1, h4, h5⟩⟩
          · exact ⟨add, by rw [h7]; exact LRel.of_flat (zerosA_flat hfl n), by rw [h7, zerosA_length, h8], .inr ⟨h1, k, m, h2, h3, h4, h5, h6, h7, by simpa using h8, h9⟩⟩
        obtain ⟨add', hrel, hlen, src⟩ := SRC
        cases hn : Nat.beq n 0 with
        | true =>
          rw [hn] at h
          obtain rfl : n = 0 := Nat.eq_of_beq_eq_true hn
          simp only [cond_true] at h
          have hadd : add' = [] := by
            have := hrel.1
            rw [hlen, Nat.zero_mul] at this
            exact List.length_eq_zero_iff.1 this.symm
          subst hadd
          have key : ∀ base sLen sCap, s' = .slice base sLen sCap → sLen ≤ sCap → (Builtin.append_ ats ty args).run P w = .ok (.slice base sLen sCap) w := by
            intro base sLen sCap he hle
            subst he
            have := (append_steps (ty := ty) ht0 hu ht1 hd hi hzz ha0 ha1 src).1 hle
            rw [this]
            cases base <;> simp [storeCells, Result.andThen]
          split at h
          · simp only [Option.some.injEq, Prod.mk.injEq] at h
            obtain ⟨rfl, rfl⟩ := h
            cases hs with
            | slNil => exact ⟨π, _, w, PLe.refl _, key _ _ _ rfl (Nat.le_refl _), .slNil, hR⟩
            | sl b o len c cap' p hp hc hl hr0 => exact ⟨π, _, w, PLe.refl _, key _ _ _ rfl (Nat.le_trans hl (capOk_le hc)), .sl _ _ _ _ _ p hp hc hl hr0, hR⟩
            | slEmpty a a' cap' => exact ⟨π, _, w, PLe.refl _, key _ _ _ rfl (Nat.zero_le _), .slEmpty a a' cap', hR⟩
          · cases h
        | false =>
          rw [hn] at h
          have hnp : 0 < n := by
            rcases Nat.eq_zero_or_pos n with h0 | h0
            · subst h0; cases hn
            · exact h0
          simp only [cond_false] at h
          cases hone : (add.all (·.oneCell') && Nat.beq zv.cells.toList.length i.size && Nat.ble i.bytes 1048576) with
          | false => rw [hone] at h; cases h
          | true =>
            rw [hone] at h
            simp only [Bool.and_eq_true] at hone
            have hby : i.bytes ≤ 1048576 := Nat.le_of_ble_eq_true hone.2
            simp only [cond_true] at h
            split at h
            · -- nil
              cases hb : (Nat.ble (n * i.bytes) 70368744177664 && Nat.ble n 70368744177664) with
              | false => rw [hb] at h; cases h
              | true =>
                rw [hb] at h
                simp only [Bool.and_eq_true] at hb
                have h1 := Nat.le_of_ble_eq_true hb.1
                have h2 := Nat.le_of_ble_eq_true hb.2
                simp only [cond_true, Option.some.injEq, Prod.mk.injEq] at h
                obtain ⟨rfl, rfl⟩ := h
                cases hs
                obtain ⟨newCap, rest, hcap, hrs, hrun⟩ := (append_steps (ty := ty) ht0 hu ht1 hd hi hzz ha0 ha1 src).2 [] hnp (by omega) (by simpa using h1) (by omega) hby (by simp [Builtin.firstCells])
                simp only [Nat.zero_add] at hrun hcap hrs
                have hzs : zv.cells.size = i.size := by have := Nat.eq_of_beq_eq_true hone.1.2; simpa using this
                have hsz : (add'.toArray ++ rest).size = newCap * i.size := by
                  rw [Array.size_append, hrs, hzs, List.size_toArray, ← hrel.1, hlen, ← Nat.add_mul]
                  congr 1; omega
                have hpc := push_cells hR.drew hrel rest e i.size
                rw [hsz] at hpc
                exact ⟨_, _, _, PLe.push _ _, by simpa using hrun, newSlice (w := w.drew) (S := newCap * i.size) (sz := i.size) hR.drew (capOk_least hcap) (by omega) (.inr (Nat.le_refl _)), hpc⟩
            · -- a slice
              rename_i b o len c
              split at h
              · rename_i k cells hg
                cases hb : (Nat.ble ((len + n) * i.bytes) 70368744177664 && Nat.ble (len + n) 70368744177664 && Nat.ble (o + len * i.size) cells.length) with
                | false => rw [hb] at h; cases h
                | true =>
                  rw [hb] at h
                  simp only [Bool.and_eq_true] at hb
                  have h1 := Nat.le_of_ble_eq_true hb.1.1
                  have h2 := Nat.le_of_ble_eq_true hb.1.2
                  have h3 := Nat.le_of_ble_eq_true hb.2
                  simp only [cond_true] at h
                  cases hs with
                  | slEmpty a a' cap' =>
                    split at h
                    · rename_i hc; omega
                    · split at h
                      · rename_i hc; exact absurd rfl hc.2.1
                      · cases h
                  | sl b o len c cap' p hp hc hl hr0 =>
                    have hold : readN H b o (len * i.size) = some ((cells.drop o).take (len * i.size)) := by
                      unfold readN
                      rw [hg]
                      simp only [Nat.ble_eq_true_of_le h3, cond_true]
                    obtain ⟨old', holdl, holdr, holdc⟩ := readN_run hR hold hp
                    have hf : (Builtin.firstCells i.size len (.slice (some ⟨p.B, p.d + o, none⟩) len cap')).run P w.drew = .ok old'.toArray w.drew :=
                      run_firstCells_some (P := P) w.drew i.size len _ len cap' old' (by rw [← holdr.1]; exact holdl) (fun j v hv => by rw [cell_same (w := w) (W := w.drew) rfl]; exact holdc j v hv)
                    have st := append_steps (ty := ty) ht0 hu ht1 hd hi hzz ha0 ha1 src
                    have hzs : zv.cells.size = i.size := by have := Nat.eq_of_beq_eq_true hone.1.2; simpa using this
                    have grow : cap' < len + n → ∃ π' v' w', PLe π π' ∧ (Builtin.append_ ats ty args).run P w = .ok v' w' ∧ VRel π' (.slice (some ⟨H.n, 0, none⟩) (len + n) (2 * (len + n))) v' ∧
                        ∀ Hk : Heap, HRel w0 π Hk w → Hk.n = H.n → HRel w0 π' (Hk.push (.row (.rw i.size) ((cells.drop o).take (len * i.size) ++ add))) w' := by
                      intro hlt
                      obtain ⟨newCap, rest, hcap, hrs, hrun⟩ := st.2 old' hnp hlt h1 h2 hby hf
                      have hsz : ((old' ++ add').toArray ++ rest).size = newCap * i.size := by
                        rw [Array.size_append, hrs, hzs, List.size_toArray, List.length_append, ← holdr.1, holdl, ← hrel.1, hlen, ← Nat.add_mul, ← Nat.add_mul]
                        congr 1; omega
                      refine ⟨_, _, _, PLe.push _ _, hrun, newSlice (w := w.drew) (S := newCap * i.size) (sz := i.size) hR.drew (capOk_least hcap) (by omega) (.inr (Nat.le_refl _)), fun Hk hk hn => ?_⟩
                      have hpc := push_cells hk.drew (LRel.append holdr hrel) rest e i.size
                      rw [hsz] at hpc
                      have he : (old' ++ add').toArray ++ rest = old'.toArray ++ (add'.toArray ++ rest) := by apply Array.ext'; simp
                      rw [he] at hpc
                      exact hpc
                    have inplace : len + n ≤ cap' → k = .rw i.size → i.size ≠ 0 → ∀ c2, capOk c2 cap' → len + n ≤ c2 / 2 → ∃ π' v' w', PLe π π' ∧ (Builtin.append_ ats ty args).run P w = .ok v' w' ∧ VRel π' (.slice (some ⟨H.n, 0, none⟩) (len + n) c2) v' ∧
                        HRel w0 π' ((H.put b none).push (.row (.rw i.size) ((cells.drop o).take (len * i.size) ++ add))) w' := by
                      intro hfit hk hi0 c2 hc2 hlc
                      subst hk
                      obtain ⟨C, et, fz, r⟩ := hR.row hg hp
                      have hpz : p.sz = i.size := r.elem
                      have hroom : p.d + o + cap' * i.size ≤ C.size := by
                        rw [r.whole]
                        rcases hr0 with h0 | h0
                        · rw [hpz] at h0; exact absurd h0 hi0
                        · rw [hpz] at h0; exact h0
                      have hmul : (len + n) * i.size ≤ cap' * i.size := Nat.mul_le_mul_right _ hfit
                      have hadl : add'.length = n * i.size := by rw [← hrel.1, hlen]
                      have hsum : (len + n) * i.size = len * i.size + n * i.size := Nat.add_mul _ _ _
                      have hstore := run_storeCells_cells (P := P) p.B (p.d + o + len * i.size) add' 0 w
                        (fun j hj => by
                          have hlt : p.d + o + len * i.size + 0 + j < C.size := by omega
                          simp only [World.cell?, r.block]
                          rw [Array.getElem?_eq_getElem hlt]; rfl)
                        (fun j hj => by
                          have hfr := r.free rfl (p.d + o + len * i.size + 0 + j) (by omega) (by omega)
                          have : decide (fz.1 ≤ p.d + o + len * i.size + 0 + j ∧ p.d + o + len * i.size + 0 + j < fz.2) = false := by simp only [decide_eq_false_iff_not]; exact hfr
                          simp only [World.frozen?, r.block]
                          simpa using this)
                        (hrel.all_one hone.1.1)
                      have hrun : (Builtin.append_ ats ty args).run P w = .ok (.slice (some ⟨p.B, p.d + o, none⟩) (len + n) cap') (w.setCells p.B (p.d + o + len * i.size) add') := by
                        rw [st.1 hfit]
                        simp only [addr_add, Nat.add_zero] at hstore ⊢
                        rw [hstore]; rfl
                      have hB := r.own rfl
                      have hbel := Below.setCells (B0 := w0.heap.size) w hB (p.d + o + len * i.size) add'
                      have hrow' := setCells_row p.B et fz add' C (p.d + o + len * i.size) w r.block
                      have hCs : (spliceA C (p.d + o + len * i.size) add').size = p.S := by rw [spliceA_size]; exact r.whole
                      refine ⟨π ++ [⟨p.B, p.d + o, p.S, p.sz⟩], _, _, PLe.push _ _, hrun, ?_, ?_⟩
                      · have := VRel.sl (π := π ++ [⟨p.B, p.d + o, p.S, p.sz⟩]) H.n 0 (len + n) c2 cap' ⟨p.B, p.d + o, p.S, p.sz⟩ (by rw [← hR.len]; exact last_place _ _) hc2 hlc (by
                          rcases hr0 with h0 | h0
                          · exact .inl h0
                          · exact .inr h0)
                        simpa using this
                      · have hkill := hR.kill b
                        -- the old block is forgotten; the new one lies where it lay
                        have hob : ∀ i' o', (H.put b none).get i' = some o' → i' ≠ b ∧ H.get i' = some o' := by
                          intro i' o' h'
                          rw [Heap.get_put _ _ _ _ (Heap.lt_of_get hg)] at h'
                          by_cases e' : i' = b
                          · rw [if_pos e'] at h'; cases h'
                          · rw [if_neg e'] at h'; exact ⟨e', h'⟩
                        have hother : ∀ i' o' (x : Place), (H.put b none).get i' = some o' → π[i']? = some x → x.B ≠ p.B := by
                          intro i' o' x h' hx' heq
                          obtain ⟨hne, hgi⟩ := hob i' o' h'
                          have own1 := (hR.obj i' o' hgi).owned hx'
                          cases hoi : o'.own with
                          | true => exact hne (hR.inj i' b o' _ x p hgi hg hoi rfl hx' hp heq)
                          | false => have := own1.2 hoi; omega
                        have hnew : ORel w0 (π ++ [⟨p.B, p.d + o, p.S, p.sz⟩]) H.n (w.setCells p.B (p.d + o + len * i.size) add') (.row (.rw i.size) ((cells.drop o).take (len * i.size) ++ add)) := by
                          have htl : ((cells.drop o).take (len * i.size)).length = len * i.size := holdl
                          refine ⟨⟨p.B, p.d + o, p.S, p.sz⟩, spliceA C (p.d + o + len * i.size) add', et, fz, by rw [← hR.len]; exact last_place _ _, hrow', hCs, hpz, ?_, ?_, fun h => (by cases h), fun _ => hB, ?_⟩
                          · rw [spliceA_size, List.length_append, htl, hlen]; show p.d + o + _ ≤ _; omega
                          · intro j hj
                            rw [List.length_append, htl, hlen] at hj
                            show VRel _ _ ((spliceA C (p.d + o + len * i.size) add').getD (p.d + o + j) undef)
                            rw [spliceA_get _ _ _ _ (by omega)]
                            by_cases hjl : j < len * i.size
                            · rw [if_neg (by omega)]
                              have hcell := (r.cell (o + j) (by omega)).mono (PLe.push π ⟨p.B, p.d + o, p.S, p.sz⟩)
                              have e1 : ((cells.drop o).take (len * i.size) ++ add).getD j undef = cells.getD (o + j) undef := by
                                rw [List.getD_eq_getElem?_getD, List.getD_eq_getElem?_getD, List.getElem?_append_left (by omega), List.getElem?_take_of_lt hjl, List.getElem?_drop]
                              rw [e1, show p.d + o + j = p.d + (o + j) by omega]
                              exact hcell
                            · rw [if_pos (by omega)]
                              have e1 : ((cells.drop o).take (len * i.size) ++ add).getD j undef = add.getD (j - len * i.size) undef := by
                                rw [List.getD_eq_getElem?_getD, List.getD_eq_getElem?_getD, List.getElem?_append_right (by omega), htl]
                              rw [e1, show p.d + o + j - (p.d + o + len * i.size) = j - len * i.size by omega]
                              exact (hrel.2 _ (by omega)).mono (PLe.push _ _)
                          · intro _ j hj1 hj2
                            rw [spliceA_size] at hj2
                            exact r.free rfl j (by have : p.d + o ≤ j := hj1; omega) hj2
                        refine ⟨by simp [hR.len, Heap.n_push, Heap.n_put], ?_, ?_, hR.below.trans hbel⟩
                        · intro i' o' h'
                          rw [Heap.get_push, Heap.n_put] at h'
                          by_cases e' : i' = H.n
                          · rw [if_pos e'] at h'
                            obtain rfl := Option.some.inj h'
                            subst e'; exact hnew
                          · rw [if_neg e'] at h'
                            obtain ⟨hne, hgi⟩ := hob i' o' h'
                            exact (hR.obj i' o' hgi).mono (PLe.push _ _) (fun x hx' => setCells_other p.B add' _ w x.B (hother i' o' x h' hx'))
                        · intro i' j' oi oj x y hi' hj' ho1 ho2 hx' hy' hxy
                          rw [Heap.get_push, Heap.n_put] at hi' hj'
                          have plc : ∀ {i' : Nat} {x : Place}, i' < H.n → (π ++ [⟨p.B, p.d + o, p.S, p.sz⟩])[i']? = some x → π[i']? = some x := fun hl h' => place_push (by rw [hR.len]; exact hl) h'
                          have new : ∀ {y : Place}, (π ++ [⟨p.B, p.d + o, p.S, p.sz⟩])[H.n]? = some y → y.B = p.B := by
                            intro y hy
                            rw [← hR.len, last_place] at hy
                            rw [← Option.some.inj hy]
                          by_cases e1 : i' = H.n
                          · by_cases e2 : j' = H.n
                            · omega
                            · exfalso
                              rw [if_neg e2] at hj'
                              obtain ⟨_, hgj⟩ := hob j' oj hj'
                              subst e1
                              exact hother j' oj y hj' (plc (Heap.lt_of_get hgj) hy') (by rw [← hxy]; exact new hx')
                          · rw [if_neg e1] at hi'
                            obtain ⟨_, hgi⟩ := hob i' oi hi'
                            by_cases e2 : j' = H.n
                            · exfalso
                              subst e2
                              exact hother i' oi x hi' (plc (Heap.lt_of_get hgi) hx') (by rw [hxy]; exact new hy')
                            · rw [if_neg e2] at hj'
                              obtain ⟨_, hgj⟩ := hob j' oj hj'
                              exact hR.inj i' j' oi oj x y hgi hgj ho1 ho2 (plc (Heap.lt_of_get hgi) hx') (plc (Heap.lt_of_get hgj) hy') hxy
                    split at h
                    · rename_i hcc
                      simp only [Option.some.injEq, Prod.mk.injEq] at h
                      obtain ⟨rfl, rfl⟩ := h
                      have hcap : cap' = c / 2 := by unfold capOk at hc; rw [if_pos hcc.1] at hc; exact hc
                      obtain ⟨π', v', w', g1, g2, g3, g4⟩ := grow (by omega)
                      exact ⟨π', v', w', g1, g2, g3, g4 H hR rfl⟩
                    · rename_i hcc
                      split at h
                      · rename_i hk
                        obtain ⟨hk, hc0, hi0⟩ := hk
                        split at h
                        · rename_i hodd
                          simp only [Option.some.injEq, Prod.mk.injEq] at h
                          obtain ⟨rfl, rfl⟩ := h
                          have hcap : cap' = c / 2 := by unfold capOk at hc; rw [if_pos hodd] at hc; exact hc
                          exact inplace (by omega) hk hi0 c hc (by omega)
                        · rename_i hodd
                          simp only [Option.some.injEq, Prod.mk.injEq] at h
                          obtain ⟨rfl, rfl⟩ := h
                          by_cases hfit : len + n ≤ cap'
                          · exact inplace hfit hk hi0 _ (capOk_least hfit) (by omega)
                          · obtain ⟨π', v', w', g1, g2, g3, g4⟩ := grow (by omega)
                            exact ⟨π', v', w', g1, g2, g3, g4 _ (hR.kill b) rfl⟩
                      · cases h
              · cases h
            · cases h
    · cases h
  · cases h
end
end Go.Ab
