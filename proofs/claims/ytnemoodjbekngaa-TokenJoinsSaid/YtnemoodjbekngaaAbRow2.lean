/-
  A call of the model out of a run of the abstract machine, for arguments that lie in memory: slices of numbers. Conditions: those of each law.
-/
import Derived.Test.YtnemoodjbekngaaAbOwn
import Derived.Test.YtnemoodjbekngaaAbRow
import Derived.SizedLaws
import Derived.ChangeSlices
namespace Go.Ab
open Go.RowKit (Below)

theorem arg_slice {W : World} {π : List Place} {H : Heap} (h : HRel W π H W) {x : Addr} {len cap : Nat} {zs : List Int} {k : IntKind} (hl : len ≤ cap) (hz : zs.length = cap) (hcap : 0 < cap) (hcell : ∀ i, i < zs.length → W.cell? (x.add i) = some (.int k (zs.getD i 0))) :
    ∃ p, HRel W (π ++ [p]) (H.push (.row .arg (zs.map (Value.int k)))) W ∧ VRel (π ++ [p]) (.slice (some ⟨H.n, 0, none⟩) len (2 * cap + 1)) (.slice (some x) len cap) := by
  obtain ⟨b, off, spot⟩ := x
  have h0 := hcell 0 (by omega)
  have hsp : spot = none := by
    cases spot with
    | none => rfl
    | some s => simp [World.cell?, Addr.add] at h0; split at h0 <;> simp_all
  subst hsp
  have hadd : ∀ i, (⟨b, off, none⟩ : Addr).add i = ⟨b, off + i, none⟩ := fun i => by simp [Addr.add]
  obtain ⟨C, e, fz, hb⟩ : ∃ C e fz, W.heap[b]? = some (.cells C e fz) := by
    rw [hadd] at h0
    unfold World.cell? at h0
    split at h0
    · exact ⟨_, _, _, by assumption⟩
    · cases h0
  have hc : ∀ i, i < zs.length → C[off + i]? = some (.int k (zs.getD i 0)) := fun i hi => by
    have := hcell i hi
    rw [hadd] at this
    simpa [World.cell?, hb] using this
  have hlast : off + zs.length ≤ C.size := by
    have := hc (zs.length - 1) (by omega)
    have := (Array.getElem?_eq_some_iff.1 this).1
    omega
  have hB : b < W.heap.size := (Array.getElem?_eq_some_iff.1 hb).1
  refine ⟨⟨b, off, C.size, 0⟩, ⟨by simp [h.len, Heap.n_push], fun i o hi => ?_, ?_, h.below⟩, ?_⟩
  · rw [Heap.get_push] at hi
    by_cases he : i = H.n
    · rw [if_pos he] at hi
      obtain rfl := Option.some.inj hi
      subst he
      refine ⟨⟨b, off, C.size, 0⟩, C, e, fz, ?_, hb, rfl, rfl, by simpa using hlast, fun j hj => ?_, fun _ => hB, fun hh => by simp [Kind.isArg] at hh, fun hh => by simp [Kind.isRw] at hh⟩
      · rw [← h.len]; exact last_place _ _
      · rw [List.length_map] at hj
        have h1 := hc j hj
        have e1 : C.getD (off + j) undef = .int k (zs.getD j 0) := by rw [Array.getD_eq_getD_getElem?, h1]; rfl
        have e2 : (zs.map (Value.int k)).getD j undef = .int k (zs.getD j 0) := by
          simp [List.getD_eq_getElem?_getD, hj]
        rw [e1, e2]
        exact .int _ _
    · rw [if_neg he] at hi
      exact (h.obj i o hi).mono (PLe.push _ _) (fun y _ => rfl)
  · intro i j oi oj y z hi hj ho1 ho2 hy hz' hyz
    have old : ∀ {i : Nat} {oi : AObj} {y : Place}, (H.push (.row .arg (zs.map (Value.int k)))).get i = some oi → oi.own = true → (π ++ [(⟨b, off, C.size, 0⟩ : Place)])[i]? = some y → H.get i = some oi ∧ π[i]? = some y := by
      intro i oi y hi ho hy
      rw [Heap.get_push] at hi
      by_cases he : i = H.n
      · rw [if_pos he] at hi
        obtain rfl := Option.some.inj hi
        simp [AObj.own] at ho
      · rw [if_neg he] at hi
        exact ⟨hi, place_push (by rw [h.len]; exact Heap.lt_of_get hi) hy⟩
    obtain ⟨g, p⟩ := old hi ho1 hy
    obtain ⟨g', p'⟩ := old hj ho2 hz'
    exact h.inj i j oi oj y z g g' ho1 ho2 p p' hyz
  · have := VRel.sl (π := π ++ [(⟨b, off, C.size, 0⟩ : Place)]) H.n 0 len (2 * cap + 1) cap ⟨b, off, C.size, 0⟩ (by rw [← h.len]; exact last_place _ _) (by unfold capOk; rw [if_pos (by omega)]; omega) (by omega) (.inl rfl)
    simpa using this
/-- A slice of numbers of an argument, as the abstract machine has it. -/
theorem arg_ints {W : World} {π : List Place} {H : Heap} (h : HRel W π H W) {a : Option Addr} {len cap : Nat} {zs : List Int}
    (hr : (a = none ∧ len = 0 ∧ cap = 0 ∧ zs = []) ∨ ∃ x, a = some x ∧ len ≤ cap ∧ cap ≤ maxLen ∧ zs.length = cap ∧ (∀ i, i < zs.length → W.cell? (x.add i) = some (.int .i64 (zs.getD i 0))) ∧ ∀ n ∈ zs, (Lit.int .i64 n).wf = true) :
    ∃ π' H' v, HRel W π' H' W ∧ VRel π' v (.slice a len cap) ∧ PLe π π' ∧ SlV eI H' v (zs.take len) ∧ ∀ j, j < H.n → H'.get j = H.get j := by
  rcases hr with ⟨rfl, rfl, rfl, rfl⟩ | ⟨x, rfl, hl, _, hz, hcell, _⟩
  · exact ⟨π, H, .slice none 0 0, h, .slNil, PLe.refl _, SlV.nil, fun _ _ => rfl⟩
  · by_cases hc : 0 < cap
    · obtain ⟨p, h1, h2⟩ := arg_slice h hl hz hc hcell
      refine ⟨_, _, _, h1, h2, PLe.push _ _, ?_, fun j hj => hget_push_lt hj⟩
      have hlen : (zs.take len).length = len := by rw [List.length_take]; omega
      refine ⟨by simp, .inr ⟨H.n, 0, 2 * cap + 1, by rw [hlen], .inr ⟨_, _, hget_push_at rfl, ?_, by simp [hz]; omega⟩⟩⟩
      rw [hlen, List.drop_zero, Nat.mul_one, ← List.map_take]; rfl
    · have hc0 : cap = 0 := by omega
      have hl0 : len = 0 := by omega
      subst hc0 hl0
      refine ⟨π, H, .slice (some ⟨0, 0, none⟩) 0 0, h, .slEmpty _ _ _, PLe.refl _, ?_, fun _ _ => rfl⟩
      rw [List.take_zero]
      exact ⟨rfl, .inr ⟨0, 0, 0, rfl, .inl rfl⟩⟩
theorem call_of_run2 {P : Program} {prim : CallF} (hN : NamesOk P) (hm : P.follows .mixedOrders = true) (hP : progOk 0 P = true) (hprim : CallOk P 0 prim) {f : FuncId} {args args' : Array Value} {H : Heap} {W : World} {π : List Place} (hR : HRel W π H W) (ha : ARel π args args')
    (h : CallsA P prim f args H fun v _ => v = .bool true) : Calls P f args' W fun e W' => e = .returned (.bool true) ∧ Below W.heap.size W W' := by
  obtain ⟨v, H', rfl, N, hN'⟩ := h
  have hr := evalF_ok hN hm hP hprim N f args H _ H' (hN' N (Nat.le_refl _)) W π W args' hR (fun g hg => by omega) ha
  refine hr.mono ?_
  rintro e w' ⟨π', v', _, rfl, hv, hR⟩
  exact ⟨by rw [(bool_rel hv true).1 rfl], hR.below⟩
/-- How long an argument's slice of numbers may be. -/
theorem ints_small {H : Type} {enc : TypeId × Value → H} {P : Program} {W : World} {base : Nat} {spare : Nat → Bool} {held : Bool} {t e : TypeId} {k : IntKind} {a : Option Addr} {len cap j B : Nat} {d : DataW H} {ps : List MemPlace} {ts : List TypeId} {ds : List (DataW H)}
    (hw : (DataW.weightsEach P ts ds).all (· ≤ reachBytes) = true) (ht : ts[j]? = some t) (hd : ds[j]? = some d) (hu : P.underlying t = some (.slice e)) (he : P.underlying e = some (.int k)) (hc : P.cellsOf e = 1) (hB : P.bytesOf e = B)
    (h : DataW.Trod enc P W base spare held t (.slice a len cap) d ps) : len * B ≤ 140737488351232 := by
  obtain ⟨f, hf⟩ := h
  cases ChangeShapes.open_ints hu he hc hf with
  | inl h0 =>
    have := h0.1
    simp only [Value.cells, List.cons.injEq, Value.slice.injEq] at this
    rw [this.1.2.1]; omega
  | inr h1 =>
    obtain ⟨x, l, c, zs, hcs, _, hl, _, hz, hx, _, _⟩ := h1
    simp only [Value.cells, List.cons.injEq, Value.slice.injEq] at hcs
    obtain ⟨⟨_, rfl, rfl⟩, _⟩ := hcs
    have hx := (Prod.mk.inj hx).1
    subst hx
    have w := sized_slice hw ht hd hu
    rw [hB] at w
    have hlen : len ≤ zs.length := by rw [hz]; split <;> omega
    refine Nat.le_trans (Nat.mul_le_mul_right _ ?_) w
    simp only [ChangeShapes.lits, List.length_map, List.length_take, List.length_drop]
    omega
end Go.Ab
