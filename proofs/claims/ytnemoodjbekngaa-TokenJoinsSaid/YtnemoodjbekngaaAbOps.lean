/-
  The abstract machine's operations against the model's: addresses, parts, cuts, texts. Conditions: those of each law.
-/
import Derived.Test.YtnemoodjbekngaaAbMem
import Derived.Laws.Slices
import Derived.Lib.IndexBytes

namespace Go.Ab

section
variable {P : Program} {π : List Place} {w : World}

theorem part_run {t : TypeId} {cs cs' : Array Value} {off : Nat} {v : Value} (h : partAt P t cs off = some v) (hc : ARel π cs cs') (w : World) : ∃ v', (part t cs' off).run P w = .ok v' w ∧ VRel π v v' := by
  unfold partAt at h
  cases ha : aggAt P t with
  | none => rw [ha] at h; cases h
  | some ag =>
    cases ag with
    | true =>
      cases hs : sizeAt P t with
      | none => rw [ha, hs] at h; cases h
      | some n =>
        rw [ha, hs] at h
        obtain rfl := Option.some.inj h
        refine ⟨.agg (cs'.extract off (off + n)), by simp [part, aggAt_run ha, sizeAt_run hs, Result.andThen], .agg _ _ (by simp [hc.1]) (fun i hi => ?_)⟩
        have hi' : off + i < cs.size := by simp at hi; omega
        have hi2 : i < off + n - off := by simp at hi; omega
        have := hc.2 (off + i) hi'
        have h1 : i < min (off + n) cs.size - off := by omega
        have h2 : i < min (off + n) cs'.size - off := by rw [← hc.1]; omega
        simpa [Array.getD_eq_getD_getElem?, Array.getElem?_extract, hi', hc.1 ▸ hi', h1, h2] using this
    | false =>
      have h' : cs[off]? = some v := by
        rw [ha] at h
        cases hs : sizeAt P t <;> rw [hs] at h <;> exact h
      have ho : off < cs.size := by
        rcases Nat.lt_or_ge off cs.size with h1 | h1
        · exact h1
        · rw [Array.getElem?_eq_none h1] at h'; cases h'
      have ho' : off < cs'.size := by rw [← hc.1]; exact ho
      have := hc.2 off ho
      refine ⟨cs'[off], by simp [part, aggAt_run ha, Result.andThen, ho'], ?_⟩
      rw [Array.getD_eq_getD_getElem?, Array.getD_eq_getD_getElem?, h', Array.getElem?_eq_getElem ho'] at this
      exact this

theorem field_run {t : TypeId} {x x' v : Value} {f : Nat} (h : fieldA P t x f = some v) (hx : VRel π x x') (w : World) : ∃ v', (Instr.field t x' f).run P w = .ok v' w ∧ VRel π v v' := by
  unfold fieldA at h
  split at h
  · rename_i fields cs hu
    split at h
    · rename_i fl hf
      cases hx with
      | agg xs ys h1 h2 =>
        obtain ⟨v', hr, hv⟩ := part_run h ⟨h1, h2⟩ w
        exact ⟨v', by simp [Instr.field, run_underlying hu, hf, asAgg, hr, Result.andThen], hv⟩
    · cases h
  · cases h

theorem fieldAddr_run {s : TypeId} {x x' v : Value} {f : Nat} (h : fieldAddrA P s x f = some v) (hx : VRel π x x') (w : World) : ∃ v', (Instr.fieldAt s x' f).run P w = .ok v' w ∧ VRel π v v' := by
  unfold fieldAddrA at h
  split at h
  · rename_i fields b o hu
    split at h
    · rename_i fl hf
      split at h
      · rename_i n hs
        obtain rfl := Option.some.inj h
        cases hx with
        | ptr b o p hp =>
          refine ⟨_, ?_, VRel.ptr b (o + fl.offset) p hp⟩
          simp [Instr.fieldAt, run_underlying hu, hf, Instr.sureAddr, fieldPlace, sizeAt_run hs, Result.andThen, addr_add, Nat.add_assoc]
      · cases h
    · cases h
  · cases h

theorem indexAddr_run {t : TypeId} {x x' i v : Value} (h : indexAddrA P t x i = some v) (hx : VRel π x x') (w : World) : ∃ v', (Instr.indexAt t x' i).run P w = .ok v' w ∧ VRel π v v' := by
  unfold indexAddrA at h
  split at h
  · rename_i k i
    split at h
    · rename_i e b o len c hu
      split at h
      · rename_i n hs
        split at h
        · rename_i hi
          obtain rfl := Option.some.inj h
          cases hx with
          | sl b o len c cap' p hp hc hl hr0 =>
            refine ⟨_, ?_, VRel.ptr b (o + i.toNat * n) p hp⟩
            simp [Instr.indexAt, asIntOf, run_underlying hu, sizeAt_run hs, Result.andThen, addr_add, Nat.add_assoc, hi]
          | slEmpty a a' cap' => exfalso; omega
        · cases h
      · cases h
    · rename_i len e b o hu
      split at h
      · rename_i n hs
        split at h
        · rename_i hi
          obtain rfl := Option.some.inj h
          cases hx with
          | ptr b o p hp =>
            refine ⟨_, ?_, VRel.ptr b (o + i.toNat * n) p hp⟩
            simp [Instr.indexAt, asIntOf, run_underlying hu, Instr.sureAddr, sizeAt_run hs, Result.andThen, addr_add, Nat.add_assoc, hi]
        · cases h
      · cases h
    · cases h
  · cases h

theorem index_run {t : TypeId} {x x' i v : Value} (h : indexA P t x i = some v) (hx : VRel π x x') (w : World) : ∃ v', (Instr.index t x' i).run P w = .ok v' w ∧ VRel π v v' := by
  unfold indexA at h
  split at h
  · rename_i k i len e cs hu
    split at h
    · rename_i n hs
      split at h
      · rename_i hi
        cases hx with
        | agg xs ys h1 h2 =>
          obtain ⟨v', hr, hv⟩ := part_run h ⟨h1, h2⟩ w
          exact ⟨v', by simp [Instr.index, asIntOf, run_underlying hu, hi, sizeAt_run hs, hr, Result.andThen], hv⟩
      · cases h
    · cases h
  · cases h

/-! ### Cuts -/
theorem capOk_exact (c : Nat) : capOk (2 * c + 1) c := by unfold capOk; rw [if_pos (by omega)]; omega
theorem capOk_least {c c' : Nat} (h : c ≤ c') : capOk (2 * c) c' := by unfold capOk; rw [if_neg (by omega)]; omega
theorem bound_run {x : Value} {y n : Nat} (h : boundA x y = some n) (code : BoundsCode) (w : World) : (Instr.sliceBound x y code).run P w = .ok n w := by
  unfold boundA at h
  split at h
  · rename_i k i
    split at h
    · rename_i hi
      obtain rfl := Option.some.inj h
      simp [Instr.sliceBound, asIntOf, hi, Result.andThen]
    · cases h
  · cases h
theorem bound_le {x : Value} {y n : Nat} (h : boundA x y = some n) : n ≤ y := by
  unfold boundA at h
  split at h
  · split at h
    · obtain rfl := Option.some.inj h; omega
    · cases h
  · cases h
theorem bound_more {x : Value} {y y' n : Nat} (h : boundA x y = some n) (hy : y ≤ y') : boundA x y' = some n := by
  unfold boundA at *
  split at h
  · split at h
    · rw [if_pos (by omega)]; exact h
    · cases h
  · cases h

theorem bounds_run {isSlice : Bool} {len cap cap' : Nat} {low high max : Option Value} {l h m : Nat} (hb : boundsA len cap low high max = some (l, h, m)) (hc : cap ≤ cap') (w : World) :
    (Instr.sliceBounds isSlice len cap' low high max).run P w = .ok (l, h, if max.isSome then m else cap') w ∧ l ≤ h ∧ (high.isSome → h ≤ m) ∧ (high = none → h = len) ∧ (max = none → m = cap) ∧ m ≤ cap := by
  unfold boundsA at hb
  cases max with
  | none =>
    simp only at hb
    cases high with
    | none =>
      simp only at hb
      cases low with
      | none =>
        simp only [Option.some.injEq, Prod.mk.injEq] at hb
        obtain ⟨rfl, rfl, rfl⟩ := hb
        simp [Instr.sliceBounds]
      | some lo =>
        simp only at hb
        cases hl : boundA lo len with
        | none => rw [hl] at hb; cases hb
        | some l' =>
          rw [hl] at hb
          simp only [Option.some.injEq, Prod.mk.injEq] at hb
          obtain ⟨rfl, rfl, rfl⟩ := hb
          have := bound_le hl
          simp [Instr.sliceBounds, bound_run hl, Result.andThen, this]
    | some hi =>
      simp only at hb
      cases hh : boundA hi cap with
      | none => rw [hh] at hb; cases hb
      | some h' =>
        rw [hh] at hb
        have hle := bound_le hh
        have hh' := bound_more hh hc
        simp only at hb
        cases low with
        | none =>
          simp only [Option.some.injEq, Prod.mk.injEq] at hb
          obtain ⟨rfl, rfl, rfl⟩ := hb
          simp [Instr.sliceBounds, bound_run hh', Result.andThen, hle]
        | some lo =>
          simp only at hb
          cases hl : boundA lo h' with
          | none => rw [hl] at hb; cases hb
          | some l' =>
            rw [hl] at hb
            simp only [Option.some.injEq, Prod.mk.injEq] at hb
            obtain ⟨rfl, rfl, rfl⟩ := hb
            have := bound_le hl
            simp [Instr.sliceBounds, bound_run hh', bound_run hl, Result.andThen, this, hle]
  | some mx =>
    simp only at hb
    cases hm : boundA mx cap with
    | none => rw [hm] at hb; cases hb
    | some m' =>
      rw [hm] at hb
      have hle := bound_le hm
      have hm' := bound_more hm hc
      simp only at hb
      cases high with
      | none => cases hb
      | some hi =>
        simp only at hb
        cases hh : boundA hi m' with
        | none => rw [hh] at hb; cases hb
        | some h' =>
          rw [hh] at hb
          have hle2 := bound_le hh
          simp only at hb
          cases low with
          | none =>
            simp only [Option.some.injEq, Prod.mk.injEq] at hb
            obtain ⟨rfl, rfl, rfl⟩ := hb
            simp [Instr.sliceBounds, bound_run hm', bound_run hh, Result.andThen, hle, hle2]
          | some lo =>
            simp only at hb
            cases hl : boundA lo h' with
            | none => rw [hl] at hb; cases hb
            | some l' =>
              rw [hl] at hb
              simp only [Option.some.injEq, Prod.mk.injEq] at hb
              obtain ⟨rfl, rfl, rfl⟩ := hb
              have := bound_le hl
              simp [Instr.sliceBounds, bound_run hm', bound_run hh, bound_run hl, Result.andThen, hle, hle2, this]

theorem slice_run {w0 : World} {H : Heap} {w : World} (hR : HRel w0 π H w) {t : TypeId} {x x' v : Value} {low high max : Option Value} (h : sliceA P t x low high max H = some v) (hx : VRel π x x') :
    ∃ v', (Instr.sliceAt t x' low high max).run P w = .ok v' w ∧ VRel π v v' := by
  unfold sliceA at h
  split at h
  · -- an array's address
    rename_i n e b o hu
    split at h
    · rename_i s l hh m hs hb
      cases hbx : boxRow H b with
      | false => rw [hbx] at h; cases h
      | true =>
      rw [hbx] at h
      obtain rfl := Option.some.inj h
      cases hx with
      | ptr b o p hp =>
        have hsz0 : p.sz = 0 := by
          unfold boxRow at hbx
          split at hbx
          · rename_i k c hg
            obtain ⟨C, e, fz, r⟩ := hR.row hg hp
            rw [r.elem]; exact Nat.eq_of_beq_eq_true hbx
          · cases hbx
        obtain ⟨hr, hlh, h1, h2, h3, h4⟩ := bounds_run (P := P) (isSlice := false) hb (Nat.le_refl _) w
        have hm : (if max.isSome = true then m else n) = m := by
          cases max with
          | none => simp [h3 rfl]
          | some mx => simp
        rw [hm] at hr
        have hhm : hh ≤ m := by
          cases high with
          | none =>
            have := h2 rfl
            cases max with
            | none => have := h3 rfl; omega
            | some mx => simp [boundsA] at hb; split at hb <;> simp_all
          | some hi => exact h1 rfl
        refine ⟨.slice (some (if m = l then ⟨p.B, p.d + o, none⟩ else ⟨p.B, p.d + (o + l * s), none⟩)) (hh - l) (m - l), ?_, ?_⟩
        · simp [Instr.sliceAt, run_underlying hu, Instr.sureAddr, hr, sizeAt_run hs, Result.andThen, addr_add, Nat.add_assoc]
        · by_cases hml : m = l
          · rw [if_pos hml, if_pos hml]
            exact VRel.sl b o _ _ _ p hp (capOk_exact _) (by omega) (.inl hsz0)
          · rw [if_neg hml, if_neg hml]
            exact VRel.sl b (o + l * s) _ _ _ p hp (capOk_exact _) (by omega) (.inl hsz0)
    · cases h
  · -- nil
    rename_i e hu
    split at h
    · rename_i n r hs hb
      obtain ⟨l, hh, m⟩ := r
      obtain rfl := Option.some.inj h
      cases hx with
      | slNil =>
        obtain ⟨hr, hlh, h1, h2, h3, h4⟩ := bounds_run (P := P) (isSlice := true) hb (Nat.le_refl _) w
        have hm : (if max.isSome = true then m else 0) = 0 := by split <;> omega
        rw [hm] at hr
        have hh0 : hh = 0 := by
          cases high with
          | none => exact h2 rfl
          | some hi => have := h1 rfl; omega
        have hl0 : l = 0 := by omega
        subst hh0; subst hl0
        exact ⟨.slice none 0 0, by simp [Instr.sliceAt, run_underlying hu, Instr.slice, hr, sizeAt_run hs, Result.andThen], .slNil⟩
    · cases h
  · -- a slice
    rename_i e b o len c hu
    split at h
    · rename_i s l hh m hs hb
      have run : ∀ (a : Addr) (cap' : Nat), c / 2 ≤ cap' → ∃ M, (M = if max.isSome then m else cap') ∧
          (Instr.sliceAt t (.slice (some a) len cap') low high max).run P w = .ok (.slice (if M = l then some a else some (a.add (l * s))) (hh - l) (M - l)) w := by
        intro a cap' hc
        obtain ⟨hr, _⟩ := bounds_run (P := P) (isSlice := true) hb hc w
        refine ⟨_, rfl, ?_⟩
        simp [Instr.sliceAt, run_underlying hu, Instr.slice, hr, sizeAt_run hs, Result.andThen]
      obtain ⟨_, hlh, h1, h2, h3, h4⟩ := bounds_run (P := P) (isSlice := true) hb (Nat.le_refl _) w
      have hmc : hh ≤ m ∨ high = none := by
        cases high with
        | none => exact .inr rfl
        | some hi => exact .inl (h1 rfl)
      split at h
      · -- no capacity at all
        rename_i hc0
        subst hc0
        obtain rfl := Option.some.inj h
        have key : ∀ (a a' : Addr) (cap' : Nat), len = 0 → ∃ v', (Instr.sliceAt t (.slice (some a') len cap') low high max).run P w = .ok v' w ∧ VRel π (.slice (some a) 0 0) v' := by
          intro a a' cap' hl
          obtain ⟨M, _, hr⟩ := run a' cap' (by omega)
          have hh0 : hh = 0 := by
            rcases hmc with h | h
            · omega
            · rw [h2 h]; exact hl
          refine ⟨_, hr, ?_⟩
          have : hh - l = 0 := by omega
          rw [this]
          split <;> exact .slEmpty _ _ _
        cases hx with
        | sl b o len c cap' p hp hc hl hr0 => exact key _ _ _ (by omega)
        | slEmpty a a' cap' => exact key _ _ _ rfl
      · rename_i hc0
        split at h
        · cases h
        rename_i hfit
        cases hx with
        | slEmpty a a' cap' => exact absurd rfl hc0
        | sl b o len c cap' p hp hc hl hr0 =>
          have hsz : p.sz = 0 ∨ p.sz = s := by
            have hfit : fitsRow H b s = true := by simpa using hfit
            unfold fitsRow at hfit
            split at hfit
            · rename_i k cc hg
              obtain ⟨C, et, fz, r⟩ := hR.row hg hp
              rw [r.elem]
              rcases Bool.or_eq_true _ _ ▸ hfit with h1 | h1
              · exact .inl (Nat.eq_of_beq_eq_true h1)
              · exact .inr (Nat.eq_of_beq_eq_true h1)
            · cases hfit
          have hcc : c / 2 ≤ cap' := by unfold capOk at hc; split at hc <;> omega
          obtain ⟨M, hM, hr⟩ := run ⟨p.B, p.d + o, none⟩ cap' hcc
          have hhm : hh ≤ m := by
            rcases hmc with h' | h'
            · exact h'
            · have := h2 h'
              cases max with
              | none => have := h3 rfl; omega
              | some mx => subst h'; simp [boundsA] at hb; split at hb <;> simp_all
          split at h
          · -- the capacity is known
            rename_i hex
            obtain rfl := Option.some.inj h
            have hMm : M = m := by
              rcases hex with hex | hex
              · unfold capOk at hc
                rw [if_pos hex] at hc
                cases max with
                | none => have := h3 rfl; simp at hM; omega
                | some mx => simpa using hM
              · simpa [hex] using hM
            subst hMm
            refine ⟨_, hr, ?_⟩
            have hMc : M ≤ cap' := Nat.le_trans h4 hcc
            have room : ∀ k, k ≤ l → p.sz = 0 ∨ p.d + (o + k * s) + (M - l) * p.sz ≤ p.S := by
              intro k hk
              rcases hsz with h0 | h0
              · exact .inl h0
              · rcases hr0 with h1 | h1
                · exact .inl h1
                · right
                  rw [h0] at h1 ⊢
                  have e1 : k * s + (M - l) * s = (k + (M - l)) * s := by rw [Nat.add_mul]
                  have e2 : (k + (M - l)) * s ≤ cap' * s := Nat.mul_le_mul_right _ (by omega)
                  omega
            by_cases hml : M = l
            · rw [if_pos hml, if_pos hml]
              exact VRel.sl b o _ _ _ p hp (capOk_exact _) (by omega) (by simpa using room 0 (Nat.zero_le _))
            · rw [if_neg hml, if_neg hml]
              rw [addr_add, Nat.add_assoc]
              exact VRel.sl b (o + l * s) _ _ _ p hp (capOk_exact _) (by omega) (room l (Nat.le_refl _))
          · rename_i hex
            have hmax : max = none := by
              cases max with
              | none => rfl
              | some mx => exact absurd (.inr rfl) hex
            subst hmax
            have hmc2 := h3 rfl
            have hMc : M = cap' := by simpa using hM
            split at h
            · rename_i hml
              obtain rfl := Option.some.inj h
              refine ⟨_, hr, ?_⟩
              have : hh - l = 0 := by omega
              rw [this]
              split <;> exact .slEmpty _ _ _
            · rename_i hml
              obtain rfl := Option.some.inj h
              have hlm : l < m := by omega
              refine ⟨_, hr, ?_⟩
              rw [if_neg (by omega), addr_add, Nat.add_assoc]
              refine VRel.sl b (o + l * s) _ _ _ p hp (capOk_least (by omega)) (by omega) ?_
              rcases hsz with h0 | h0
              · exact .inl h0
              · rcases hr0 with h1 | h1
                · exact .inl h1
                · right
                  rw [h0] at h1 ⊢
                  have e1 : l * s + (M - l) * s = (l + (M - l)) * s := by rw [Nat.add_mul]
                  have e2 : (l + (M - l)) * s ≤ cap' * s := Nat.mul_le_mul_right _ (by omega)
                  omega
    · cases h
  · cases h

/-! ### Texts -/
theorem catB_eq (a b : ByteArray) : catB a b = a ++ b := by
  have : (catB a b).data = (a ++ b).data := by simp [catB]
  cases h : a ++ b
  simp_all [catB]
theorem subB_eq (s : ByteArray) (l h : Nat) : subB s l h = s.extract l h := by
  have : (subB s l h).data = (s.extract l h).data := by
    simp only [subB, ByteArray.data_extract]
    apply Array.ext'
    simp [Array.toList_extract, List.extract_eq_take_drop]
  cases hh : s.extract l h
  simp_all [subB]
theorem eqL_eq : ∀ (a b : List UInt8), eqL a b = (a == b)
  | [], [] => rfl
  | [], _ :: _ => rfl
  | _ :: _, [] => rfl
  | a :: x, b :: y => by
    simp only [eqL, eqL_eq x y, List.cons_beq_cons]
    congr 1
    cases h : Nat.beq a.toNat b.toNat with
    | true => have := UInt8.toNat_inj.1 (Nat.eq_of_beq_eq_true h); subst this; simp
    | false =>
      symm
      rw [beq_eq_false_iff_ne]
      intro e
      subst e
      simp [Nat.beq_refl] at h
theorem ltL_eq : ∀ (a b : List UInt8), ltL a b = Op.bytesLess a b
  | _, [] => by cases ‹List UInt8› <;> rfl
  | [], _ :: _ => rfl
  | a :: x, b :: y => by
    simp only [ltL, Op.bytesLess, ltL_eq x y]
    have h1 : Nat.blt a.toNat b.toNat = decide (a < b) := by
      cases h : Nat.blt a.toNat b.toNat with
      | true => symm; rw [decide_eq_true_eq, UInt8.lt_iff_toNat_lt]; simpa [Nat.blt_eq] using h
      | false =>
        symm; rw [decide_eq_false_iff_not, UInt8.lt_iff_toNat_lt]
        intro hh
        have : Nat.blt a.toNat b.toNat = true := by simpa [Nat.blt_eq] using hh
        rw [h] at this; cases this
    have h2 : Nat.beq a.toNat b.toNat = (a == b) := by
      have := eqL_eq [a] [b]
      simpa [eqL] using this
    rw [h1, h2]

theorem str_run {op : BinOp} {x y v : Value} (h : strA op x y = some v) (t : TypeId) (w : World) : (binOp op t x y).run P w = .ok v w ∧ flat v = true := by
  unfold strA at h
  split at h
  · rename_i a b
    have e1 : (a.toList == b.toList) = eqL a.data.toList b.data.toList := by rw [eqL_eq, Lib.toList_data, Lib.toList_data]
    have e2 : Op.bytesLess a.toList b.toList = ltL a.data.toList b.data.toList := by rw [ltL_eq, Lib.toList_data, Lib.toList_data]
    cases op <;> simp only at h <;> first
      | (obtain rfl := Option.some.inj h
         exact ⟨by simp only [binOp, Op.stringOp, e1, e2]; rfl, rfl⟩)
      | (split at h
         · rename_i hl
           obtain rfl := Option.some.inj h
           refine ⟨?_, rfl⟩
           simp only [binOp, Op.stringOp, catB_eq]
           have : ¬ (((a.size + b.size : Nat) : Int) > IntKind.i64.max) := by
             have : IntKind.i64.max = 9223372036854775807 := by decide
             omega
           rw [if_neg this]; rfl
         · cases h)
      | cases h
  · cases h

theorem strIndex_run {t : TypeId} {x i v : Value} (h : strIndexA P t x i = some v) (w : World) : (Instr.index t x i).run P w = .ok v w ∧ flat v = true := by
  unfold strIndexA at h
  split at h
  · rename_i k i s hu
    split at h
    · rename_i hi
      cases hb : s.data.toList[i.toNat]? with
      | none => rw [hb] at h; cases h
      | some b =>
        rw [hb] at h
        obtain rfl := Option.some.inj h
        refine ⟨?_, rfl⟩
        have hlt : i.toNat < s.size := by
          rcases Nat.lt_or_ge i.toNat s.data.toList.length with h1 | h1
          · simpa using h1
          · rw [List.getElem?_eq_none h1] at hb; cases hb
        have hg : s[i.toNat]? = some b := by
          rw [getElem?_pos s i.toNat hlt]
          congr 1
          have : s.data.toList[i.toNat]'(by simpa using hlt) = b := by
            rw [List.getElem?_eq_getElem (by simpa using hlt)] at hb
            exact Option.some.inj hb
          rw [← this]; rfl
        simp [Instr.index, asIntOf, run_underlying hu, hi, hg, Result.andThen]
    · cases h
  · cases h

theorem strSlice_run {t : TypeId} {x v : Value} {low high max : Option Value} (h : strSliceA P t x low high max = some v) (w : World) : (Instr.sliceAt t x low high max).run P w = .ok v w ∧ flat v = true := by
  unfold strSliceA at h
  split at h
  · rename_i s hu
    split at h
    · rename_i l hh m hb
      obtain rfl := Option.some.inj h
      obtain ⟨hr, _⟩ := bounds_run (P := P) (isSlice := false) hb (Nat.le_refl _) w
      exact ⟨by simp [Instr.sliceAt, run_underlying hu, Instr.slice, hr, subB_eq, Result.andThen], rfl⟩
    · cases h
  · cases h
end
end Go.Ab
