/-
  The abstract machine's operations against the model's: copy, clear, len, conversions, nil, assertions, methods, and all that touches no memory. Conditions: those of each law.
-/
import Derived.Test.YtnemoodjbekngaaAbAppend
import Derived.WideLaws
import Derived.Orders
namespace Go.Ab
open Go.RowKit (Below)

section
variable {P : Program} {w0 : World} {π : List Place} {H : Heap} {w : World}

theorem copy_run (hR : HRel w0 π H w) {ats : Array TypeId} {d d' x x' : Value} {ty : TypeId} {args : Array Value} {v : Value} {H' : Heap} (h : copyA P ats d x H = some (v, H'))
    (hd : VRel π d d') (hx : VRel π x x') (ha0 : args[0]? = some d') (ha1 : args[1]? = some x') :
    ∃ v' w', (Builtin.copy_ ats ty args).run P w = .ok v' w' ∧ VRel π v v' ∧ HRel w0 π H' w' := by
  unfold copyA at h
  split at h
  · rename_i e he
    obtain ⟨t0, ht0, he⟩ := Option.bind_eq_some_iff.1 he
    have hu := elemAt_eq he
    split at h
    · rename_i size hs
      split at h
      · rename_i n cells base len c hsrc
        obtain ⟨add', hl, hrel, h1, h2, h3⟩ := source_run (P := P) hR hsrc hx
        have key : ∀ base' len' cap', d' = .slice base' len' cap' → len' = len → (Builtin.copy_ ats ty args).run P w = ((match base' with | some a => storeCells a (add'.take (Nat.min n len * size)) | none => pure ()).run P w).andThen fun _ w => .ok (goInt (Nat.min n len)) w := by
          intro base' len' cap' he hlen
          subst he; subst hlen
          have e3 := h3 (Nat.min n len') w (Nat.min_le_left _ _) rfl
          simp only [Builtin.copy_, ht0, ha0, ha1, Sem.run_bind, run_underlying hu, Result.andThen, h1 w, sizeAt_run hs, e3]
          cases base' <;> simp [Result.andThen]
        cases hb : Nat.beq (Nat.min n len) 0 with
        | true =>
          rw [hb] at h
          have hm : Nat.min n len = 0 := Nat.eq_of_beq_eq_true hb
          simp only [cond_true, Option.some.injEq, Prod.mk.injEq] at h
          obtain ⟨rfl, rfl⟩ := h
          have key2 : ∀ base' len' cap', d' = .slice base' len' cap' → len' = len → (Builtin.copy_ ats ty args).run P w = .ok (.int .i64 0) w := by
            intro base' len' cap' he hlen
            rw [key base' len' cap' he hlen, hm]
            cases base' <;> simp [storeCells, Result.andThen, goInt]
          cases hd with
          | slNil => exact ⟨_, w, key2 _ _ _ rfl rfl, .int _ _, hR⟩
          | sl b o len c cap' p hp hc hl hr0 => exact ⟨_, w, key2 _ _ _ rfl rfl, .int _ _, hR⟩
          | slEmpty a a' cap' => exact ⟨_, w, key2 _ _ _ rfl rfl, .int _ _, hR⟩
        | false =>
          rw [hb] at h
          simp only [cond_false] at h
          split at h
          · rename_i b o
            cases hw : write H b o (cells.take (Nat.min n len * size)) with
            | none => rw [hw] at h; cases h
            | some H2 =>
              rw [hw] at h
              simp only [Option.map_some, Option.some.injEq, Prod.mk.injEq] at h
              obtain ⟨rfl, rfl⟩ := h
              cases hd with
              | sl b o len c cap' p hp hc hl hr0 =>
                obtain ⟨w1, w2⟩ := write_run (P := P) hR hw (hrel.take _) hp
                refine ⟨_, _, ?_, .int _ _, w2⟩
                rw [key _ _ _ rfl rfl, w1]; rfl
              | slEmpty a a' cap' =>
                exfalso
                have : Nat.min n 0 = 0 := Nat.min_eq_right (Nat.zero_le _)
                rw [this] at hb; cases hb
          · cases h
      · cases h
    · cases h
  · cases h

theorem clear_run (hR : HRel w0 π H w) {ats : Array TypeId} {x x' : Value} {ty : TypeId} {args : Array Value} {v : Value} {H' : Heap} (h : clearA P ats x H = some (v, H'))
    (hx : VRel π x x') (ha0 : args[0]? = some x') :
    ∃ v' w', (Builtin.clear_ ats ty args).run P w = .ok v' w' ∧ VRel π v v' ∧ HRel w0 π H' w' := by
  unfold clearA at h
  split at h
  · rename_i e a c he
    obtain ⟨t0, ht0, he⟩ := Option.bind_eq_some_iff.1 he
    have hu := elemAt_eq he
    simp only [Option.some.injEq, Prod.mk.injEq] at h
    obtain ⟨rfl, rfl⟩ := h
    cases hx
    exact ⟨.tuple #[], w, by simp [Builtin.clear_, ht0, ha0, run_underlying hu, Result.andThen], VRel.undef π, hR⟩
  · rename_i e a c he
    obtain ⟨t0, ht0, he⟩ := Option.bind_eq_some_iff.1 he
    have hu := elemAt_eq he
    simp only [Option.some.injEq, Prod.mk.injEq] at h
    obtain ⟨rfl, rfl⟩ := h
    refine ⟨.tuple #[], w, ?_, VRel.undef π, hR⟩
    cases hx <;> simp [Builtin.clear_, ht0, ha0, run_underlying hu, Result.andThen]
  · rename_i e b o n c _ he
    obtain ⟨t0, ht0, he⟩ := Option.bind_eq_some_iff.1 he
    have hu := elemAt_eq he
    split at h
    · rename_i size z hs hz
      obtain ⟨i, zv, hi, hzz, rfl, hfl⟩ := zeroOf_run hz
      cases hb : Nat.beq zv.cells.toList.length size with
      | false => rw [hb] at h; cases h
      | true =>
        rw [hb] at h
        simp only [cond_true] at h
        cases hw : write H b o (zerosA zv.cells.toList n) with
        | none => rw [hw] at h; cases h
        | some H2 =>
          rw [hw] at h
          simp only [Option.map_some, Option.some.injEq, Prod.mk.injEq] at h
          obtain ⟨rfl, rfl⟩ := h
          have hzc : (Builtin.zeroCells zv.cells n).toList = zerosA zv.cells.toList n := by
            have := zeros_list zv.cells n
            simpa [Builtin.zeroCells] using this
          cases hx with
          | sl b o n c cap' p hp hc hl hr0 =>
            obtain ⟨w1, w2⟩ := write_run (P := P) hR hw (LRel.of_flat (zerosA_flat hfl n)) hp
            refine ⟨.tuple #[], _, ?_, VRel.undef π, w2⟩
            cases n with
            | zero =>
              simp only [zerosA, List.replicate_zero, List.flatten_nil] at w1
              simp [Builtin.clear_, ht0, ha0, run_underlying hu, Result.andThen, zerosA, World.setCells]
            | succ n => simp [Builtin.clear_, ht0, ha0, run_underlying hu, zeroValue, typeInfo, hi, hzz, hzc, w1, Result.andThen]
          | slEmpty a a' cap' => rename_i hne; exact (hne rfl).elim
    · cases h
  · cases h

theorem len_run (hR : HRel w0 π H w) {ats : Array TypeId} {x x' : Value} {ty : TypeId} {args : Array Value} {v : Value} (h : lenA P ats x H = some v) (hx : VRel π x x') (ha0 : args[0]? = some x') :
    (Builtin.len_ ats ty args).run P w = .ok v w ∧ flat v = true := by
  unfold lenA at h
  split at h
  · rename_i s hu
    obtain ⟨t0, ht0, hu⟩ := Option.bind_eq_some_iff.1 hu
    obtain rfl := Option.some.inj h
    cases hx
    exact ⟨by simp [Builtin.len_, ht0, ha0, run_underlying hu, Result.andThen, goInt], rfl⟩
  · rename_i e a n c hu
    obtain ⟨t0, ht0, hu⟩ := Option.bind_eq_some_iff.1 hu
    obtain rfl := Option.some.inj h
    refine ⟨?_, rfl⟩
    cases hx <;> simp [Builtin.len_, ht0, ha0, run_underlying hu, Result.andThen, goInt]
  · rename_i k e hu
    obtain ⟨t0, ht0, hu⟩ := Option.bind_eq_some_iff.1 hu
    obtain rfl := Option.some.inj h
    cases hx
    exact ⟨by simp [Builtin.len_, ht0, ha0, run_underlying hu, Result.andThen, goInt], rfl⟩
  · rename_i k e r hu
    obtain ⟨t0, ht0, hu⟩ := Option.bind_eq_some_iff.1 hu
    split at h
    · rename_i es cl hg
      obtain rfl := Option.some.inj h
      cases hx with
      | map r p hp =>
        obtain ⟨p', E, h1, h2, h3, h4, h5⟩ := hR.obj r _ hg
        rw [hp] at h1
        obtain rfl := Option.some.inj h1
        refine ⟨?_, rfl⟩
        have hgo : (getObj p.B).run P w = .ok (.map E cl) w := by simp [getObj, Sem.run, h3]
        simp [Builtin.len_, ht0, ha0, run_underlying hu, Result.andThen, goInt, hgo, h4]
    · cases h
  · cases h

theorem bytesStr_eq : ∀ (l : List Value) (r : List UInt8), bytesStr l = some r → ∃ ns : List Int, l = ns.map (Value.int .u8) ∧ r = ns.map (fun n => UInt8.ofNat n.toNat)
  | [], r, h => by simp only [bytesStr, Option.some.injEq] at h; subst h; exact ⟨[], rfl, rfl⟩
  | v :: l, r, h => by
    unfold bytesStr at h
    split at h
    · rename_i hnil; cases hnil
    · rename_i n l' he
      cases he
      cases hb : bytesStr l with
      | none => rw [hb] at h; cases h
      | some r' =>
        rw [hb] at h
        obtain rfl := Option.some.inj h
        obtain ⟨ns, h1, h2⟩ := bytesStr_eq l r' hb
        exact ⟨n :: ns, by simp [h1], by simp [h2]⟩
    · cases h
theorem LRel.ints {π : List Place} : ∀ (ns : List Int) (l : List Value), LRel π (ns.map (Value.int .u8)) l → l = ns.map (Value.int .u8)
  | [], l, h => by have := h.1; simp at this; simpa using this.symm
  | n :: ns, [], h => by have := h.1; simp at this
  | n :: ns, v :: l, h => by
    have h0 := h.2 0 (by simp)
    simp only [List.map_cons, List.getD_cons_zero] at h0
    cases h0
    have := LRel.ints ns l ⟨by have := h.1; simpa using this, fun i hi => by have := h.2 (i + 1) (by simpa using hi); simpa using this⟩
    simp [this]
theorem foldl_push : ∀ (ns : List Int) (s : ByteArray), (ns.foldl (fun r n => r.push (UInt8.ofNat n.toNat)) s).data.toList = s.data.toList ++ ns.map (fun n => UInt8.ofNat n.toNat)
  | [], s => by simp
  | n :: ns, s => by simp only [List.foldl_cons, List.map_cons]; rw [foldl_push ns]; simp [ByteArray.push]

theorem convert_run (hR : HRel w0 π H w) {src dst : TypeId} {x x' : Value} {v : Value} {H' : Heap} (h : convertA P src dst x H = some (v, H')) (hx : VRel π x x') :
    ∃ π' v' w', PLe π π' ∧ (convert src dst x').run P w = .ok v' w' ∧ VRel π' v v' ∧ HRel w0 π' H' w' := by
  unfold convertA at h
  split at h
  · rename_i e s hs hd
    split at h
    · rename_i he
      simp only [Option.some.injEq, Prod.mk.injEq] at h
      obtain ⟨rfl, rfl⟩ := h
      cases hx
      have hrun := run_bytes_of_string (P := P) w src dst e s hs hd he
      have hcap : s.size ≤ grownCap w s.size 0 e := by simp [grownCap, Question.cut]
      have hbs : (bytesRow s (grownCap w s.size 0 e)).size = grownCap w s.size 0 e := by simp [bytesRow]; omega
      refine ⟨_, _, _, PLe.push _ _, hrun, newSlice (w := w.drew) (S := (bytesRow s (grownCap w s.size 0 e)).size) (sz := 1) hR.drew (capOk_least hcap) (by omega) (.inr (by omega)), push_row hR.drew 1 (C := bytesRow s (grownCap w s.size 0 e)) (e := e) ?_ ?_ ?_ rfl rfl rfl rfl⟩
      · rw [byteCells_length, hbs]; exact hcap
      · intro j hj
        rw [byteCells_length] at hj
        have e1 : (byteCells s).getD j undef = (bytesRow s (grownCap w s.size 0 e)).getD j undef := by
          have e2 : (bytesRow s (grownCap w s.size 0 e)).toList = byteCells s ++ List.replicate (grownCap w s.size 0 e - s.size) (.int .u8 0) := by simp [bytesRow, byteCells]
          rw [arr_getD_toList, e2, List.getD_eq_getElem?_getD, List.getD_eq_getElem?_getD, List.getElem?_append_left (by rw [byteCells_length]; exact hj)]
        rw [← e1]
        exact flatL_refl _ _ (byteCells_flat s) j (by rw [byteCells_length]; exact hj)
      · intro j hj hc; omega
    · cases h
  · rename_i e hs hd
    split at h
    · rename_i he
      simp only [Option.some.injEq, Prod.mk.injEq] at h
      obtain ⟨rfl, rfl⟩ := h
      cases hx
      exact ⟨π, _, w, PLe.refl _, by simp [convert, run_underlying hs, run_underlying hd, run_underlying he, Conv.bytesToString, Result.andThen, ByteArray.empty, ByteArray.emptyWithCapacity]; rfl, .string _, hR⟩
    · cases h
  · rename_i e a c hs hd
    split at h
    · rename_i he
      simp only [Option.some.injEq, Prod.mk.injEq] at h
      obtain ⟨rfl, rfl⟩ := h
      refine ⟨π, .string ⟨#[]⟩, w, PLe.refl _, ?_, .string _, hR⟩
      have key : ∀ (b : Addr) (k : Nat), (convert src dst (.slice (some b) 0 k)).run P w = .ok (.string ⟨#[]⟩) w := by
        intro b k
        have := run_bytesToString (P := P) w b 0 k [] (by simp [loadCells, loadCellsFrom])
        simp [convert, run_underlying hs, run_underlying hd, run_underlying he, this, Result.andThen, ByteArray.empty, ByteArray.emptyWithCapacity]
        rfl
      cases hx with
      | sl => exact key _ _
      | slEmpty => exact key _ _
    · cases h
  · rename_i e b o n c _ hs hd
    split at h
    · rename_i he
      cases hr : readN H b o n with
      | none => rw [hr] at h; cases h
      | some l =>
        rw [hr] at h
        simp only [Option.bind_some] at h
        cases hb : bytesStr l with
        | none => rw [hb] at h; cases h
        | some r =>
          rw [hb] at h
          simp only [Option.map_some, Option.some.injEq, Prod.mk.injEq] at h
          obtain ⟨rfl, rfl⟩ := h
          obtain ⟨ns, h1, h2⟩ := bytesStr_eq l r hb
          cases hx with
          | sl b o n c cap' p hp hc hl hr0 =>
            obtain ⟨l', hlen, hrel, hcell⟩ := readN_run hR hr hp
            subst h1
            obtain rfl := LRel.ints ns l' hrel
            have hload := run_loadCells_list (P := P) w ⟨p.B, p.d + o, none⟩ (ns.map (Value.int .u8)) hcell
            rw [hlen] at hload
            have := run_bytesToString (P := P) w ⟨p.B, p.d + o, none⟩ n cap' ns hload
            refine ⟨π, _, w, PLe.refl _, ?_, .string _, hR⟩
            simp only [convert, Sem.run_bind, run_underlying hs, run_underlying hd, run_underlying he, Result.andThen, this]
            congr 2
            have hfp := foldl_push ns ByteArray.empty
            generalize ns.foldl (fun r n => r.push (UInt8.ofNat n.toNat)) ByteArray.empty = S at hfp
            cases S with | mk d =>
            congr 1
            apply Array.ext'
            have e0 : ByteArray.empty.data.toList = [] := rfl
            rw [e0, List.nil_append] at hfp
            rw [h2]
            exact hfp
          | slEmpty a a' cap' => rename_i hne; exact (hne rfl).elim
    · cases h
  · cases h

theorem eqNil_in {t : TypeId} {x y x' y' : Value} {b : Bool} (h : eqNil P t x y = some b) (hx : VRel π x x') (hy : VRel π y y') (w : World) (d : Nat) :
    (Op.equalIn (d + 1) t x' y').run P w = .ok b w := by
  unfold eqNil at h
  split at h <;> first
    | (rename_i hu
       obtain rfl := Option.some.inj h
       cases hx <;> cases hy <;> (simp [Op.equalIn, run_underlying hu, Result.andThen]; done))
    | cases h
theorem eqNil_guard {t : TypeId} {x y x' y' : Value} {b : Bool} (h : eqNil P t x y = some b) (hx : VRel π x x') (hy : VRel π y y') (w : World) (op : BinOp) (ox oy : Operand) :
    (eqGuard op t ox oy x' y').run P w = .ok () w := by
  unfold eqNil at h
  split at h <;> first
    | (rename_i hu
       cases hx <;> cases hy <;> (cases op <;> simp [eqGuard]; done))
    | cases h
theorem eqNil_op {t : TypeId} {x y x' y' : Value} {b : Bool} (h : eqNil P t x y = some b) (hx : VRel π x x') (hy : VRel π y y') :
    binOp .eql t x' y' = (do pure (.bool (← Op.equal t x' y'))) ∧ binOp .neq t x' y' = (do pure (.bool (!(← Op.equal t x' y')))) := by
  unfold eqNil at h
  split at h <;> first
    | (rename_i hu
       cases hx <;> cases hy <;> exact ⟨rfl, rfl⟩)
    | cases h
theorem eqNil_run {t : TypeId} {x y x' y' : Value} {b : Bool} (h : eqNil P t x y = some b) (hx : VRel π x x') (hy : VRel π y y') (w : World) :
    (binOp .eql t x' y').run P w = .ok (.bool b) w ∧ (binOp .neq t x' y').run P w = .ok (.bool !b) w := by
  obtain ⟨h1, h2⟩ := eqNil_op h hx hy
  have h3 : (Op.equal t x' y').run P w = .ok b w := eqNil_in h hx hy w 9999
  rw [h1, h2]
  simp [h3, Result.andThen]

theorem assert_run {x x' v : Value} {t : TypeId} {ok : Bool} (h : assertA P x t ok = some v) (hx : VRel π x x') (xT : TypeId) (w : World) : ∃ v', (Instr.typeAssert x' xT t ok).run P w = .ok v' w ∧ VRel π v v' := by
  unfold assertA at h
  split at h
  · cases h
  · rename_i d t' v0 hni hu
    split at h
    · rename_i ht
      subst ht
      obtain rfl := Option.some.inj h
      cases hx with
      | iface t v v' hv =>
        refine ⟨if ok then .tuple #[v', .bool true] else v', ?_, ?_⟩
        · cases d <;> first
            | (exact (hni _ rfl).elim)
            | (simp [Instr.typeAssert, run_underlying hu, Result.andThen])
        · cases ok
          · exact hv
          · refine .tuple _ _ rfl (fun i hi => ?_)
            have hi : i < 2 := by simpa using hi
            rcases (by omega : i = 0 ∨ i = 1) with rfl | rfl
            · simpa using hv
            · simpa using VRel.bool true
    · cases h
  · cases h

theorem method_run {t : TypeId} {name : String} {f : FuncId} (h : methodA P t name = some f) (v : Value) (fuel : Nat) (w : World) : (method (fuel + 1) t v name).run P w = .ok (f, v) w := by
  unfold methodA at h
  split at h
  · rename_i i hi
    split at h
    · rename_i m hm
      cases hp : m.path.isEmpty with
      | false => rw [hp] at h; cases h
      | true =>
        rw [hp] at h
        simp only [cond_true] at h
        have hpl : m.path.toList = [] := by simpa using hp
        split at h <;> first
          | (rename_i hf hu
             obtain rfl := Option.some.inj h
             simp [method, typeInfo, hi, hm, hpl, follow, hf, receiverAt, run_underlying hu, Place.get, Result.andThen]
             done)
          | cases h
    · cases h
  · cases h

theorem flat_run {ρ ρ' : Operand → Value} {o : Oper} {H : Heap} {r : ARes} (h : evalFlat P ρ o H = some r) (hno : ∀ cs b, o.op ≠ .select cs b) (hρ : ∀ x ∈ o.op.operands.toList, VRel π (ρ x) (ρ' x)) (w : World) :
    ∃ v, r = .val v H ∧ flat v = true ∧ (execOp ρ' o).run P w = .ok (.value v) w := by
  unfold evalFlat at h
  cases hf : o.op.operands.toList.all (fun x => flat (ρ x)) with
  | false => rw [hf] at h; cases h
  | true =>
    rw [hf] at h
    simp only [cond_true] at h
    split at h
    · rename_i v hs
      cases hv : flat v with
      | false => rw [hv] at h; cases h
      | true =>
        rw [hv] at h
        obtain rfl := Option.some.inj h
        have hrun := still_run _ _ hs w
        refine ⟨v, rfl, hv, ?_⟩
        rw [← execOp_congr o hno (fun x hx => ?_)]
        · exact hrun
        · have hx' : x ∈ o.op.operands.toList := by simpa using hx
          exact ((hρ x hx').eq_of_flat (List.all_eq_true.1 hf x hx')).symm
    · cases h
end
end Go.Ab
