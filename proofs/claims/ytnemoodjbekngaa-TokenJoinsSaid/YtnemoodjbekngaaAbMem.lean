/-
  The abstract machine's operations against the model's: reading and writing memory. Conditions: those of each law.
-/
import Derived.Test.YtnemoodjbekngaaAbEval
import Derived.Tactics
import Derived.Laws.Tables
import Derived.ArgAppend
import Derived.Laws.IdiomCopy
import Derived.Laws.MakeOwn
namespace Go.Ab
open Go.RowKit (Below)

theorem still_run {α : Type} {P : Program} : ∀ (s : Sem α) (a : α), still P s = some a → ∀ w, s.run P w = .ok a w
  | .pure b, a, h, w => by simp only [still, Option.some.injEq] at h; subst h; rfl
  | .program k, a, h, w => by simp only [still] at h; exact still_run (k P) a h w
  | .mark m k, a, h, w => by simp only [still] at h; exact still_run k a h w
  | .load .., a, h, w => by simp [still] at h
  | .store .., a, h, w => by simp [still] at h
  | .new .., a, h, w => by simp [still] at h
  | .shape .., a, h, w => by simp [still] at h
  | .freeze .., a, h, w => by simp [still] at h
  | .frozen .., a, h, w => by simp [still] at h
  | .getObj .., a, h, w => by simp [still] at h
  | .setObj .., a, h, w => by simp [still] at h
  | .choose .., a, h, w => by simp [still] at h
  | .sys .., a, h, w => by simp [still] at h
  | .halt _, a, h, w => by simp [still] at h

theorem VRel.oneCell {π : List Place} {v v' : Value} (h : VRel π v v') : v'.oneCell' = v.oneCell' := by cases h <;> rfl
theorem VRel.cells {π : List Place} {v v' : Value} (h : VRel π v v') : LRel π v.cells.toList v'.cells.toList := by
  cases h with
  | agg xs ys h1 h2 => exact ⟨by simpa [Value.cells] using h1, fun i hi => by have := h2 i (by simpa [Value.cells] using hi); rwa [arr_getD_toList, arr_getD_toList] at this⟩
  | _ =>
    refine ⟨rfl, fun i hi => ?_⟩
    have hi0 : i = 0 := by simp [Value.cells] at hi; exact hi
    subst hi0
    simp only [Value.cells, List.getD_cons_zero]
    constructor <;> assumption
theorem LRel.mono {π π' : List Place} (hp : PLe π π') {l l' : List Value} (h : LRel π l l') : LRel π' l l' := ⟨h.1, fun i hi => (h.2 i hi).mono hp⟩
theorem ARel.mono {π π' : List Place} (hp : PLe π π') {l l' : Array Value} (h : ARel π l l') : ARel π' l l' := ⟨h.1, fun i hi => (h.2 i hi).mono hp⟩
theorem LRel.nil (π : List Place) : LRel π [] [] := ⟨rfl, fun i hi => by simp at hi⟩
theorem LRel.cons {π : List Place} {x x' : Value} {l l' : List Value} (h : VRel π x x') (k : LRel π l l') : LRel π (x :: l) (x' :: l') :=
  ⟨by simp [k.1], fun i hi => by
    cases i with
    | zero => simpa using h
    | succ i => simpa using k.2 i (by simpa using hi)⟩
theorem LRel.append {π : List Place} : ∀ {a a' b b' : List Value}, LRel π a a' → LRel π b b' → LRel π (a ++ b) (a' ++ b')
  | [], [], _, _, _, k => k
  | [], _ :: _, _, _, h, _ => by have := h.1; simp at this
  | _ :: _, [], _, _, h, _ => by have := h.1; simp at this
  | x :: a, x' :: a', b, b', h, k => by
    have h0 : VRel π x x' := by simpa using h.2 0 (by simp)
    have ht : LRel π a a' := ⟨by simpa using h.1, fun i hi => by simpa using h.2 (i + 1) (by simpa using hi)⟩
    exact LRel.cons h0 (LRel.append ht k)
theorem LRel.of_flat {π : List Place} {l : List Value} (h : flatL l = true) : LRel π l l := ⟨rfl, flatL_refl π l h⟩
theorem LRel.all_one {π : List Place} {l l' : List Value} (h : LRel π l l') (ha : l.all (·.oneCell') = true) : ∀ v ∈ l', v.oneCell' = true := by
  intro v hv
  obtain ⟨i, hi, rfl⟩ := List.getElem_of_mem hv
  have hi' : i < l.length := by rw [h.1]; exact hi
  have := h.2 i hi'
  rw [List.getD_eq_getElem?_getD, List.getD_eq_getElem?_getD, List.getElem?_eq_getElem hi', List.getElem?_eq_getElem hi] at this
  rw [show l'[i] = (some l'[i]).getD undef from rfl, this.oneCell]
  exact List.all_eq_true.1 ha _ (List.getElem_mem hi')
theorem LRel.take {π : List Place} {l l' : List Value} (h : LRel π l l') (n : Nat) : LRel π (l.take n) (l'.take n) := by
  refine ⟨by simp [h.1], fun i hi => ?_⟩
  have hi1 : i < n := by simp at hi; omega
  have hi2 : i < l.length := by simp at hi; omega
  have := h.2 i hi2
  simpa [List.getD_eq_getElem?_getD, List.getElem?_take_of_lt hi1] using this
theorem LRel.get? {π : List Place} {l l' : List Value} (h : LRel π l l') {i : Nat} {v : Value} (hv : l[i]? = some v) : ∃ v', l'[i]? = some v' ∧ VRel π v v' := by
  have hi : i < l.length := by
    rcases Nat.lt_or_ge i l.length with h' | h'
    · exact h'
    · rw [List.getElem?_eq_none h'] at hv; cases hv
  have hi' : i < l'.length := by rw [← h.1]; exact hi
  have := h.2 i hi
  rw [List.getD_eq_getElem?_getD, List.getD_eq_getElem?_getD, hv, List.getElem?_eq_getElem hi'] at this
  exact ⟨l'[i], List.getElem?_eq_getElem hi', this⟩

section
variable {P : Program} {w0 : World} {π : List Place} {H : Heap} {w : World}

theorem HRel.row (hR : HRel w0 π H w) {b : Nat} {k : Kind} {c : List Value} (hg : H.get b = some (.row k c)) {p : Place} (hp : π[b]? = some p) :
    ∃ C e fz, RowAt w0 π b k c w p C e fz := by
  obtain ⟨p', C, e, fz, r⟩ := hR.obj b _ hg
  have := r.place
  rw [hp] at this
  cases this
  exact ⟨C, e, fz, r⟩

theorem RowAt.cell? {b : Nat} {k : Kind} {c : List Value} {p : Place} {C : Array Value} {e : TypeId} {fz : Nat × Nat} (r : RowAt w0 π b k c w p C e fz) {j : Nat} (hj : j < c.length) :
    w.cell? ⟨p.B, p.d + j, none⟩ = some (C.getD (p.d + j) undef) := by
  have hs := r.size
  have : p.d + j < C.size := by omega
  simp [World.cell?, r.block, Array.getD_eq_getD_getElem?, this]

theorem read1_run (hR : HRel w0 π H w) {b o : Nat} {v : Value} (h : read1 H b o = some v) {p : Place} (hp : π[b]? = some p) :
    ∃ v', w.cell? ⟨p.B, p.d + o, none⟩ = some v' ∧ VRel π v v' := by
  unfold read1 at h
  cases hg : H.get b with
  | none => rw [hg] at h; cases h
  | some ob =>
    rw [hg] at h
    cases ob with
    | row k c =>
      simp only at h
      obtain ⟨C, e, fz, r⟩ := hR.row hg hp
      have ho : o < c.length := by
        rcases Nat.lt_or_ge o c.length with h' | h'
        · exact h'
        · rw [List.getElem?_eq_none h'] at h; cases h
      refine ⟨_, r.cell? ho, ?_⟩
      have := r.cell o ho
      rwa [List.getD_eq_getElem?_getD, h] at this
    | map es cl => cases h
    | iter s p => cases h

theorem addr_add (B x j : Nat) : (⟨B, x, none⟩ : Addr).add j = ⟨B, x + j, none⟩ := by unfold Addr.add; split <;> simp_all

theorem readN_run (hR : HRel w0 π H w) {b o n : Nat} {l : List Value} (h : readN H b o n = some l) {p : Place} (hp : π[b]? = some p) :
    ∃ l', l.length = n ∧ LRel π l l' ∧ ∀ (j : Nat) u, l'[j]? = some u → w.cell? ((⟨p.B, p.d + o, none⟩ : Addr).add j) = some u := by
  unfold readN at h
  cases hg : H.get b with
  | none => rw [hg] at h; cases h
  | some ob =>
    rw [hg] at h
    cases ob with
    | row k c =>
      simp only at h
      cases hb : Nat.ble (o + n) c.length with
      | false => rw [hb] at h; cases h
      | true =>
        rw [hb] at h
        obtain rfl : (c.drop o).take n = l := Option.some.inj h
        have hle : o + n ≤ c.length := Nat.le_of_ble_eq_true hb
        obtain ⟨C, e, fz, r⟩ := hR.row hg hp
        refine ⟨(List.range n).map fun j => C.getD (p.d + (o + j)) undef, by simp; omega, ⟨by simp; omega, fun i hi => ?_⟩, fun j u hu => ?_⟩
        · have hi' : i < n := by simp at hi; omega
          have := r.cell (o + i) (by omega)
          simpa [List.getD_eq_getElem?_getD, List.getElem?_take_of_lt hi', hi'] using this
        · have hj : j < n := by
            rcases Nat.lt_or_ge j n with h' | h'
            · exact h'
            · simp [h'] at hu
          simp [hj] at hu
          subst hu
          rw [addr_add, show p.d + o + j = p.d + (o + j) by omega]
          have := r.cell? (j := o + j) (by omega)
          simpa [Array.getD_eq_getD_getElem?] using this
    | map es cl => cases h
    | iter s p => cases h

theorem write_run (hR : HRel w0 π H w) {b o : Nat} {vs vs' : List Value} {H' : Heap} (h : write H b o vs = some H') (hv : LRel π vs vs') {p : Place} (hp : π[b]? = some p) :
    (storeCells ⟨p.B, p.d + o, none⟩ vs').run P w = .ok () (w.setCells p.B (p.d + o) vs') ∧ HRel w0 π H' (w.setCells p.B (p.d + o) vs') := by
  unfold write at h
  cases hg : H.get b with
  | none => rw [hg] at h; cases h
  | some ob =>
    rw [hg] at h
    cases ob with
    | row k c =>
      cases k with
      | rw sz =>
        simp only at h
        cases hb : (Nat.ble (o + vs.length) c.length && vs.all (·.oneCell')) with
        | false => rw [hb] at h; cases h
        | true =>
          rw [hb] at h
          obtain rfl := Option.some.inj h
          simp only [Bool.and_eq_true] at hb
          have hle : o + vs.length ≤ c.length := Nat.le_of_ble_eq_true hb.1
          obtain ⟨C, e, fz, r⟩ := hR.row hg hp
          have hs := r.size
          have hl := hv.1
          constructor
          · have := run_storeCells_cells (P := P) p.B (p.d + o) vs' 0 w
              (fun j hj => by rw [show p.d + o + 0 + j = p.d + (o + j) by omega, r.cell? (by omega)]; rfl)
              (fun j hj => by
                have hf := r.free rfl (p.d + o + j) (by omega) (by omega)
                have : decide (fz.1 ≤ p.d + o + j ∧ p.d + o + j < fz.2) = false := by simp only [decide_eq_false_iff_not]; exact hf
                simp only [World.frozen?, Nat.add_zero, r.block]
                simpa using this)
              (hv.all_one hb.2)
            simpa using this
          · refine hR.turn (x := p) hg rfl hp (fun k hk => setCells_other p.B vs' _ w k hk) (Below.setCells w (r.own rfl) _ _) ?_
            refine ⟨p, spliceA C (p.d + o) vs', e, fz, hp, setCells_row p.B e fz vs' C (p.d + o) w r.block, by rw [spliceA_size]; exact r.whole, r.elem, ?_, ?_, (fun hk => by cases hk), (fun _ => r.own rfl), ?_⟩
            · rw [spliceA_size, splice_length hle]; exact hs
            · intro j hj
              rw [splice_length hle] at hj
              rw [splice_get hle, spliceA_get _ _ _ _ (by omega)]
              by_cases hc : o ≤ j ∧ j < o + vs.length
              · rw [if_pos hc, if_pos (by omega), show p.d + j - (p.d + o) = j - o by omega]
                exact hv.2 _ (by omega)
              · rw [if_neg hc, if_neg (by omega)]
                exact r.cell j hj
            · intro _ j h1 h2
              rw [spliceA_size] at h2
              exact r.free rfl j h1 h2
      | ro sz => cases h
      | arg => cases h
    | map es cl => cases h
    | iter s p => cases h

/-- Where a new block lies. -/
def newPlace (w : World) (S sz : Nat) : Place := ⟨w.heap.size, 0, S, sz⟩
/-- A new row of cells. -/
theorem push_row (hR : HRel w0 π H w) {cells : List Value} {C : Array Value} {e : TypeId} {fz : Nat × Nat} (sz : Nat) (hs : cells.length ≤ C.size) (hc : ∀ j, j < cells.length → VRel π (cells.getD j undef) (C.getD j undef)) (hf : ∀ j, j < C.size → ¬ (fz.1 ≤ j ∧ j < fz.2)) {w' : World} (hh : w'.heap = w.heap.push (.cells C e fz)) (h1 : w'.os = w.os) (h2 : w'.tape = w.tape) (h3 : w'.output = w.output) :
    HRel w0 (π ++ [newPlace w C.size sz]) (H.push (.row (.rw sz) cells)) w' := by
  have hp : PLe π (π ++ [newPlace w C.size sz]) := PLe.push _ _
  refine hR.push (fun k hk => by rw [hh, Array.getElem?_push, if_neg (by omega)]) ⟨h1, h2, h3, by rw [hh]; simp, fun k hk => by have := hR.below.size; rw [hh, Array.getElem?_push, if_neg (by omega)]⟩ (Nat.le_refl _) ?_
  refine ⟨newPlace w C.size sz, C, e, fz, by rw [← hR.len]; exact last_place _ _, by rw [hh]; simp [newPlace], rfl, rfl, by simpa [newPlace] using hs, fun j hj => ?_, fun h => (by cases h), fun _ => hR.below.size, fun _ j _ h2 => hf j h2⟩
  have := (hc j hj).mono hp
  simpa [newPlace] using this

theorem newPtr (hR : HRel w0 π H w) (S sz : Nat) : VRel (π ++ [newPlace w S sz]) (ptrTo H) (.pointer (some ⟨w.heap.size, 0, none⟩)) := by
  have := VRel.ptr (π := π ++ [newPlace w S sz]) H.n 0 (newPlace w S sz) (by rw [← hR.len]; exact last_place _ _)
  simpa [ptrTo, newPlace] using this
theorem newSlice (hR : HRel w0 π H w) {len c cap' S sz : Nat} (hc : capOk c cap') (hl : len ≤ c / 2) (hr : sz = 0 ∨ cap' * sz ≤ S) : VRel (π ++ [newPlace w S sz]) (.slice (some ⟨H.n, 0, none⟩) len c) (.slice (some ⟨w.heap.size, 0, none⟩) len cap') := by
  have := VRel.sl (π := π ++ [newPlace w S sz]) H.n 0 len c cap' (newPlace w S sz) (by rw [← hR.len]; exact last_place _ _) hc hl (by simpa [newPlace] using hr)
  simpa [newPlace] using this

theorem aggAt_run {t : TypeId} {b : Bool} (h : aggAt P t = some b) (w : World) : (isAgg t).run P w = .ok b w := by
  unfold aggAt at h
  cases hu : P.underlying t with
  | none => rw [hu] at h; cases h
  | some d =>
    rw [hu] at h
    cases d <;> simp only [Option.some.injEq] at h <;> subst h <;> simp [isAgg, run_underlying hu]
theorem sizeAt_run {t : TypeId} {n : Nat} (h : sizeAt P t = some n) (w : World) : (sizeOf t).run P w = .ok n w := by
  unfold sizeAt at h
  cases hi : P.info? t with
  | none => rw [hi] at h; cases h
  | some i => rw [hi] at h; simp only [Option.map_some, Option.some.injEq] at h; subst h; simp [sizeOf, typeInfo, hi]
theorem zeroOf_run {t : TypeId} {z : List Value} (h : zeroOf P t = some z) : ∃ i v, P.info? t = some i ∧ i.zero = some v ∧ v.cells.toList = z ∧ flatL z = true := by
  unfold zeroOf at h
  cases hi : P.info? t with
  | none => rw [hi] at h; cases h
  | some i =>
    rw [hi] at h
    simp only [Option.bind_some] at h
    cases hz : i.zero with
    | none => rw [hz] at h; cases h
    | some v =>
      rw [hz] at h
      simp only [Option.bind_some] at h
      cases hf : flat v with
      | false => rw [hf] at h; cases h
      | true =>
        rw [hf] at h
        obtain rfl := Option.some.inj h
        refine ⟨i, v, rfl, hz, rfl, ?_⟩
        cases v with
        | agg xs => cases xs; simpa [Value.cells, flat] using hf
        | _ => simp_all [Value.cells, flatL]

theorem load_run (hR : HRel w0 π H w) {t : TypeId} {x x' v : Value} (h : loadA P t x H = some v) (hx : VRel π x x') : ∃ v', (Instr.loadAt t x').run P w = .ok v' w ∧ VRel π v v' := by
  unfold loadA at h
  cases hx with
  | ptr b o p hp =>
    simp only at h
    cases ha : aggAt P t with
    | none => rw [ha] at h; cases h
    | some ag =>
      rw [ha] at h
      cases ag with
      | true =>
        simp only at h
        cases hs : sizeAt P t with
        | none => rw [hs] at h; cases h
        | some n =>
          rw [hs] at h
          simp only at h
          cases hr : readN H b o n with
          | none => rw [hr] at h; cases h
          | some l =>
            rw [hr] at h
            obtain rfl := Option.some.inj h
            obtain ⟨l', hl, hrel, hcell⟩ := readN_run hR hr hp
            have hn : l'.length = n := by rw [← hrel.1]; exact hl
            refine ⟨.agg l'.toArray, ?_, .agg _ _ (by simpa using hrel.1) (fun i hi => by have := hrel.2 i (by simpa using hi); rwa [arr_getD_toList, arr_getD_toList])⟩
            have := run_loadCells_list (P := P) w ⟨p.B, p.d + o, none⟩ l' hcell
            rw [hn] at this
            simp [Instr.loadAt, Instr.sureAddr, loadVar, aggAt_run ha, sizeAt_run hs, this, Result.andThen]
      | false =>
        simp only at h
        obtain ⟨v', hc, hv⟩ := read1_run hR h hp
        refine ⟨v', ?_, hv⟩
        simp [Instr.loadAt, Instr.sureAddr, loadVar, aggAt_run ha, Result.andThen, run_load, hc]
  | _ => cases h

theorem store_run (hR : HRel w0 π H w) {t : TypeId} {x x' v v' : Value} {H' : Heap} (h : storeA P t x v H = some H') (hx : VRel π x x') (hv : VRel π v v') : ∃ w', (Instr.storeAt t x' v').run P w = .ok () w' ∧ HRel w0 π H' w' := by
  unfold storeA at h
  cases hx with
  | ptr b o p hp =>
    cases hs : sizeAt P t with
    | none => rw [hs] at h; cases h
    | some n =>
      rw [hs] at h
      simp only at h
      cases hb : Nat.beq v.cells.size n with
      | false => rw [hb] at h; cases h
      | true =>
        rw [hb] at h
        simp only [cond_true] at h
        have hn : v.cells.size = n := Nat.eq_of_beq_eq_true hb
        have hc := hv.cells
        obtain ⟨h1, h2⟩ := write_run (P := P) hR h hc hp
        refine ⟨_, ?_, h2⟩
        have hsz : v'.cells.size = n := by have := hc.1; simp at this; omega
        simp [Instr.storeAt, Instr.sureAddr, storeVar, sizeAt_run hs, hsz, h1, Result.andThen]
  | _ =>
    cases hs : sizeAt P t <;> rw [hs] at h <;> cases h
end
end Go.Ab
