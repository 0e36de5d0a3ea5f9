/-
  A drawn region, operation by operation: effects one behind the other that leave what was, and each that reads yields at the first heap already. Conditions: those of each law.
-/
import Derived.Test.YtnemoodjbekngaaAbOwn
namespace Go.Ab

theorem hext_refl (H : Heap) : HExt H H := fun _ _ h => h
theorem hext_trans {A B C : Heap} (h1 : HExt A B) (h2 : HExt B C) : HExt A C := fun i o h => h2 i o (h1 i o h)
/-- What is left of the region, each operation by itself. -/
def MD (P : Program) (prim : CallF) (Q : AExit → Fr → Heap → Prop) (all : List Oper) (k : List Item) (Hb : Heap) : List Oper → Fr → Heap → Prop
  | [], fr, H => M P prim Q k .normal fr H
  | o :: l, fr, H => (isReads P o = true → M P prim (fun _ _ _ => True) [.ops all [o]] .normal fr Hb) ∧
      M P prim (fun _ fr1 H1 => (isEffect P o = true → HExt Hb H1) ∧ MD P prim Q all k Hb l fr1 H1) [.ops all [o]] .normal fr H
def ExtAll (Hb : Heap) (es : List (Nat × Heap)) : Prop := ∀ e ∈ es, HExt Hb e.2
def drawOkE (P : Program) (n : Nat) (ops : List Oper) : Bool :=
  depsOk ops && (ops.all fun o => match o.dst with | some d => Nat.blt d n | none => true) &&
  (let bs := befs ops
   ops.zipIdx.all fun x => ops.zipIdx.all fun y =>
    (!(isEffect P x.1 && isEffect P y.1 && Nat.blt x.2 y.2) || (bs.getD y.2 []).any (Nat.beq x.2)))

section
variable {P : Program} {prim : CallF} {Q : AExit → Fr → Heap → Prop} {all : List Oper} {k : List Item} {Hb : Heap}

theorem reads_all {fr : Fr} {bs : List (List Nat)} {i : Nat} {o : Oper} {v : Value} {H' : Heap} (hc : classOf P o.op = .reads) (hv : ∀ d, o.dst = some d → v = fr.get d) (hb : evalOp P fr.eval o Hb = some (.val v H')) :
    ∀ (es : List (Nat × Heap)) (H : Heap), HExt Hb H → ExtAll Hb es → readsSame P fr bs i o H es = true
  | es, H, he, hx => by
    obtain ⟨H2, h2⟩ := ext_reads hc he hb
    have key : (es.any (fun e => (bs.getD i []).any (Nat.beq e.1)) || (match evalOp P fr.eval o H with
        | some (.val v _) => (match o.dst with | some d => valEq v (fr.get d) | none => true)
        | _ => false)) = true := by
      rw [Bool.or_eq_true]
      right
      rw [h2]
      simp only
      cases hd : o.dst with
      | none => rfl
      | some d => simp only; rw [hv d hd]; exact valEq_refl _
    cases es with
    | nil => rw [readsSame, Bool.and_eq_true]; exact ⟨key, rfl⟩
    | cons e r =>
      obtain ⟨e1, e2⟩ := e
      rw [readsSame, Bool.and_eq_true]
      refine ⟨key, ?_⟩
      rw [Bool.or_eq_true]
      exact .inr (reads_all hc hv hb r e2 (hx (e1, e2) (by simp)) fun e he => hx e (by simp [he]))
termination_by es => es.length

theorem one_run {n : Nat} {o : Oper} {fr fr1 : Fr} {H H1 : Heap} {y : AExit} (h : rs P prim n [.ops all [o]] .normal fr H = some (y, fr1, H1)) :
    (Region.wanted o (yieldedA all.toArray fr) = true ∧ ∃ v, stepOp P (evalF P prim n) fr o H = some (v, H1) ∧ fr1 = fr.put o.dst v) ∨ (Region.wanted o (yieldedA all.toArray fr) = false ∧ fr1 = fr.put o.dst undef ∧ H1 = H) := by
  simp only [rs, runOps] at h
  cases hw : Region.wanted o (yieldedA all.toArray fr) with
  | false =>
    rw [hw] at h
    simp only [cond_false, Option.some.injEq, Prod.mk.injEq] at h
    exact .inr ⟨rfl, h.2.1.symm, h.2.2.symm⟩
  | true =>
    rw [hw] at h
    simp only [cond_true] at h
    cases hs : stepOp P (evalF P prim n) fr o H with
    | none => rw [hs] at h; cases h
    | some r =>
      obtain ⟨v, H2⟩ := r
      rw [hs] at h
      simp only [Option.some.injEq, Prod.mk.injEq] at h
      obtain ⟨_, h1, h2⟩ := h
      subst h2
      exact .inl ⟨rfl, v, rfl, h1.symm⟩

theorem MD_run : ∀ (l : List Oper) (i : Nat) (fr : Fr) (H : Heap), HExt Hb H → MD P prim Q all k Hb l fr H →
    ∃ y fr2 H2, Q y fr2 H2 ∧ ∃ N, ∀ n, N ≤ n → ∃ fr' es, textRun P (evalF P prim n) all.toArray l i fr H = some (fr', es) ∧ rs P prim n k .normal fr' (lastHeap H es) = some (y, fr2, H2) ∧ ExtAll Hb es ∧
      ∀ (j : Nat) (o : Oper), l[j]? = some o → classOf P o.op = .reads → ∃ fi : Fr, (∀ t, (∀ (m : Nat) (p : Oper), j ≤ m → l[m]? = some p → p.dst ≠ some t) → fi.get t = fr'.get t) ∧
        (Region.wanted o (yieldedA all.toArray fi) = true → ∃ v, evalOp P fi.eval o Hb = some (.val v Hb) ∧ ∀ d, o.dst = some d → d < fr.n → (∀ (m : Nat) (p : Oper), j < m → l[m]? = some p → p.dst ≠ some d) → fr'.get d = v)
  | [], i, fr, H, hb, h => by
    obtain ⟨y, fr2, H2, hq, N, hN⟩ := h
    exact ⟨y, fr2, H2, hq, N, fun n hn => ⟨fr, [], rfl, hN n hn, fun e he => by simp at he, fun j o ho => by simp at ho⟩⟩
  | o :: l, i, fr, H, hb, h => by
    obtain ⟨hr, y1, fr1, H1, ⟨hx, hd⟩, N1, h1⟩ := h
    have hH1 : HExt Hb H1 := by
      rcases one_run (h1 N1 (Nat.le_refl _)) with ⟨_, v, hs, _⟩ | ⟨_, _, rfl⟩
      · by_cases hc : classOf P o.op = .effect
        · exact hx (isEffect_iff.2 hc)
        · rw [(stepOp_quiet hs hc).1]; exact hb
      · exact hb
    obtain ⟨y, fr2, H2, hq, N2, h2⟩ := MD_run l (i + 1) fr1 H1 hH1 hd
    have hbase : classOf P o.op = .reads → Region.wanted o (yieldedA all.toArray fr) = true → ∃ v, evalOp P fr.eval o Hb = some (.val v Hb) := by
      intro hc hw
      obtain ⟨yb, frb, Hb', _, Nb, hNb⟩ := hr (isReads_iff.2 hc)
      rcases one_run (hNb Nb (Nat.le_refl _)) with ⟨_, v, hs, _⟩ | ⟨hw', _⟩
      · exact ⟨v, (stepOp_quiet hs (by rw [hc]; simp)).2⟩
      · rw [hw] at hw'; cases hw'
    refine ⟨y, fr2, H2, hq, N1 + N2, fun n hn => ?_⟩
    obtain ⟨fr', es, t1, t2, t3, t4⟩ := h2 n (by omega)
    obtain ⟨s1, s2, _, _⟩ := textRun_spec l (i + 1) _ _ _ _ t1
    have up : ∀ (es' : List (Nat × Heap)) (v : Value), fr1 = fr.put o.dst v → (∀ d, o.dst = some d → d < fr.n → (fr.put o.dst v).get d = v) → (classOf P o.op = .reads → Region.wanted o (yieldedA all.toArray fr) = true → evalOp P fr.eval o Hb = some (.val v Hb)) →
        ∀ (j : Nat) (p : Oper), (o :: l)[j]? = some p → classOf P p.op = .reads → ∃ fi : Fr, (∀ t, (∀ (m : Nat) (q : Oper), j ≤ m → (o :: l)[m]? = some q → q.dst ≠ some t) → fi.get t = fr'.get t) ∧
        (Region.wanted p (yieldedA all.toArray fi) = true → ∃ v, evalOp P fi.eval p Hb = some (.val v Hb) ∧ ∀ d, p.dst = some d → d < fr.n → (∀ (m : Nat) (q : Oper), j < m → (o :: l)[m]? = some q → q.dst ≠ some d) → fr'.get d = v) := by
      intro es' v hv hg he j p hp hc
      have hn1 : fr1.n = fr.n := by
        rw [hv]; cases o.dst with
        | none => rfl
        | some d => exact Fr.n_set _ _ _
      cases j with
      | zero =>
        simp only [List.getElem?_cons_zero, Option.some.injEq] at hp
        subst hp
        refine ⟨fr, fun t ht => ?_, fun hw => ⟨v, he hc hw, fun d hd hdn hl => ?_⟩⟩
        · rw [s2 t fun q hq' => by
            obtain ⟨m, hm⟩ := List.getElem?_of_mem hq'
            exact ht (m + 1) q (by omega) (by simpa using hm), hv]
          have h0 : o.dst ≠ some t := ht 0 o (by omega) rfl
          cases hod : o.dst with
          | none => rfl
          | some d =>
            have : t ≠ d := fun e => h0 (by rw [hod, e])
            exact (get_put_ne this).symm
        · rw [s2 d fun q hq' => by
            obtain ⟨m, hm⟩ := List.getElem?_of_mem hq'
            exact hl (m + 1) q (by omega) (by simpa using hm), hv]
          exact hg d hd hdn
      | succ j =>
        obtain ⟨fi, f1, f2⟩ := t4 j p (by simpa using hp) hc
        refine ⟨fi, fun t ht => f1 t fun m q hm hq' => ht (m + 1) q (by omega) (by simpa using hq'), fun hw => ?_⟩
        obtain ⟨u, u1, u2⟩ := f2 hw
        exact ⟨u, u1, fun d hd hdn hl => u2 d hd (by rw [hn1]; exact hdn) fun m q hm hq' => hl (m + 1) q (by omega) (by simpa using hq')⟩
    have hput : ∀ v : Value, ∀ d, o.dst = some d → d < fr.n → (fr.put o.dst v).get d = v := fun v d hd hdn => by rw [hd, put_some, get_put_eq hdn]
    rcases one_run (h1 n (by omega)) with ⟨hw, v, hs, hf⟩ | ⟨hw, hf, hH⟩
    · have he : classOf P o.op = .reads → Region.wanted o (yieldedA all.toArray fr) = true → evalOp P fr.eval o Hb = some (.val v Hb) := by
        intro hc hw
        obtain ⟨u, hu⟩ := hbase hc hw
        obtain ⟨H3, h3⟩ := ext_reads hc hb hu
        have := (stepOp_quiet hs (by rw [hc]; simp)).2
        rw [h3] at this
        simp only [Option.some.injEq, ARes.val.injEq] at this
        rw [hu, this.1]
      have e1 : textRun P (evalF P prim n) all.toArray (o :: l) i fr H = some (fr', match classOf P o.op with | .effect => (i, H1) :: es | _ => es) := by
        simp only [textRun, hw, cond_true, hs]
        rw [← hf, t1]
        rfl
      by_cases hc : classOf P o.op = .effect
      · refine ⟨fr', (i, H1) :: es, ?_, ?_, (fun e he => (List.mem_cons.1 he).elim (fun h => h ▸ hH1) (t3 e)), up es v hf (hput v) he⟩
        · rw [e1, hc]
        · rw [lastHeap_cons]; exact t2
      · have hq := (stepOp_quiet hs hc).1
        refine ⟨fr', es, ?_, ?_, t3, up es v hf (hput v) he⟩
        · rw [e1]; cases hcc : classOf P o.op <;> simp_all
        · rw [← hq]; exact t2
    · refine ⟨fr', es, ?_, ?_, t3, up es undef hf (hput undef) fun _ hw' => by rw [hw] at hw'; cases hw'⟩
      · simp only [textRun, hw, cond_false]
        rw [← hf, ← hH]; exact t1
      · rw [← hH]; exact t2

theorem M_drawD {fr : Fr} {H : Heap} {id : Nat} {l : List Oper} {n : Nat} (hn : fr.n = n) (h : drawOkE P n l = true) (hm : MD P prim Q l k H l fr H) : M P prim Q (.code (.region id l.toArray true) :: k) .normal fr H := by
  subst hn
  unfold drawOkE at h
  simp only [Bool.and_eq_true] at h
  obtain ⟨⟨hd, hn⟩, hp⟩ := h
  obtain ⟨y, fr2, H2, hq, N, hN⟩ := MD_run l 0 fr H (hext_refl H) hm
  refine ⟨y, fr2, H2, hq, N, fun m hm => ?_⟩
  obtain ⟨fr', es, t1, t2, t3, t4⟩ := hN m hm
  simp only [rs, evalC, cond_true]
  have key : runDraw P (evalF P prim m) l.toArray fr H = some (fr', lastHeap H es) := by
    unfold runDraw
    simp only [List.toList_toArray]
    rw [t1]
    simp only
    obtain ⟨hpair, heff⟩ := textRun_eff l 0 _ _ _ _ t1
    have eop : ∀ e ∈ es, ∃ o, l[e.1]? = some o ∧ isEffect P o = true := fun e he => let ⟨_, o, h1, h2⟩ := heff e he; ⟨o, by simpa using h1, isEffect_iff.2 h2⟩
    have hch : chained (befs l) es = true := by
      refine chained_of es ?_
      refine List.Pairwise.imp_of_mem ?_ hpair
      intro a b ha hb hab
      obtain ⟨p, hp1, hp2⟩ := eop a ha
      obtain ⟨q, hq1, hq2⟩ := eop b hb
      have h1 := List.all_eq_true.1 (List.all_eq_true.1 hp (p, a.1) (zip_mem hp1)) (q, b.1) (zip_mem hq1)
      have hlt : Nat.blt a.1 b.1 = true := by rw [Nat.blt_eq]; exact hab
      simp only [hp2, hq2, hlt, Bool.and_self, Bool.not_true, Bool.false_or] at h1
      exact any_mem h1
    have hall : (l.zipIdx.all fun x => match classOf P x.1.op with
      | .reads => bif Region.wanted x.1 (yieldedA l.toArray fr') then readsSame P fr' (befs l) x.2 x.1 H es else true
      | _ => true) = true := by
      refine List.all_eq_true.2 fun x hx => ?_
      obtain ⟨o, i⟩ := x
      have ho : l[i]? = some o := by
        rw [List.mem_zipIdx_iff_getElem?] at hx; exact hx
      cases hc : classOf P o.op with
      | pure => rfl
      | effect => rfl
      | reads =>
        simp only
        obtain ⟨fi, k1, k5⟩ := t4 i o ho hc
        have hwant : Region.wanted o (yieldedA l.toArray fi) = Region.wanted o (yieldedA l.toArray fr') := wanted_congr fun k b hk => by
          have hki := deps_guard hd ho hk
          unfold yieldedA
          cases hpk : l.toArray[k]? with
          | none => rfl
          | some p =>
            have hpk' : l[k]? = some p := by simpa using hpk
            simp only [Option.bind_some]
            cases hpd : p.dst with
            | none => rfl
            | some t =>
              have e1 : fi.get t = fr'.get t := k1 t fun m q hm hq hqd => by
                have := deps_dst hd hq hpk' hpd hqd
                omega
              simp only [e1]
        cases hw : Region.wanted o (yieldedA l.toArray fr') with
        | false => rfl
        | true =>
          rw [cond_true]
          obtain ⟨v, m1, m2⟩ := k5 (by rw [hwant]; exact hw)
          have hev : ∀ x ∈ o.op.operands.toList, fi.eval x = fr'.eval x := eval_congr fun t ht' => k1 t fun m p hm hp' hpd => by
            obtain ⟨hwf, hne⟩ := deps_use hd ho hp' hpd ht'
            obtain ⟨e, he, hb, hon⟩ := waits_edge hwf
            have := deps_after hd ho he hb
            omega
          rw [evalOp_congr hev] at m1
          refine reads_all hc (fun d hod => ?_) m1 es H (hext_refl H) t3
          have hdn := List.all_eq_true.1 hn o (List.mem_of_getElem? ho)
          rw [hod] at hdn
          exact (m2 d hod (by simpa [Nat.blt_eq] using hdn) fun m p hm hp' hpd => by
            have := deps_dst hd ho hp' hpd hod
            omega).symm
    rw [hd, hch, Bool.cond_eq_ite, if_pos ?_]
    · rfl
    · simp only [Bool.and_self, Bool.true_and]
      exact hall
  rw [key]
  exact t2
theorem MD_nil {fr : Fr} {H : Heap} (h : M P prim Q k .normal fr H) : MD P prim Q all k Hb [] fr H := h
theorem MD_pure {o : Oper} {l : List Oper} {fr : Fr} {H : Heap} (hr : isReads P o = false) (he : isEffect P o = false) (h : M P prim (fun _ fr1 H1 => MD P prim Q all k Hb l fr1 H1) [.ops all [o]] .normal fr H) : MD P prim Q all k Hb (o :: l) fr H := by
  refine ⟨fun h => (Bool.noConfusion (hr.symm.trans h)), ?_⟩
  obtain ⟨y, f, h', hq, N, hN⟩ := h
  exact ⟨y, f, h', ⟨fun h => (Bool.noConfusion (he.symm.trans h)), hq⟩, N, hN⟩
theorem MD_read {o : Oper} {l : List Oper} {fr : Fr} {H : Heap} (he : isEffect P o = false) (hb : M P prim (fun _ _ _ => True) [.ops all [o]] .normal fr Hb) (h : M P prim (fun _ fr1 H1 => MD P prim Q all k Hb l fr1 H1) [.ops all [o]] .normal fr H) : MD P prim Q all k Hb (o :: l) fr H := by
  refine ⟨fun _ => hb, ?_⟩
  obtain ⟨y, f, h', hq, N, hN⟩ := h
  exact ⟨y, f, h', ⟨fun h => (Bool.noConfusion (he.symm.trans h)), hq⟩, N, hN⟩
theorem MD_eff {o : Oper} {l : List Oper} {fr : Fr} {H : Heap} (hr : isReads P o = false) (h : M P prim (fun _ fr1 H1 => HExt Hb H1 ∧ MD P prim Q all k Hb l fr1 H1) [.ops all [o]] .normal fr H) : MD P prim Q all k Hb (o :: l) fr H := by
  refine ⟨fun h => (Bool.noConfusion (hr.symm.trans h)), ?_⟩
  obtain ⟨y, f, h', ⟨h1, h2⟩, N, hN⟩ := h
  exact ⟨y, f, h', ⟨fun _ => h1, h2⟩, N, hN⟩
end
/-- Appended, whether there is something to append or not. -/
theorem app_any {α : Type} {enc : α → Value} {P : Program} {at_ : Array TypeId} {by_ : Nat} {x : Value} {xs ys : List α} {H : Heap} {a : Option Addr} {n c : Nat} (ht : appTy P at_ = some (1, by_, false)) (hx : SlV enc H x ys)
    (ho : Own H a n c 1 (xs.map enc)) (hn : n = xs.length) (hb : (xs.length + ys.length) * by_ ≤ 70368744177664) (hb2 : xs.length + ys.length ≤ 70368744177664) (hv : ∀ x, oneV (enc x)) :
    ∃ a' c' H', appendA P at_ (.slice a n c) x H = some (.slice a' (xs ++ ys).length c', H') ∧ Own H' a' (xs ++ ys).length c' 1 ((xs ++ ys).map enc) ∧ H.n ≤ H'.n ∧ (∀ j, j < H.n → j ∉ blkA a → H'.get j = H.get j) ∧ ∀ j ∈ blkA a', j ∈ blkA a ∨ H.n ≤ j := by
  subst hn
  cases ys with
  | nil =>
    refine ⟨a, c, H, ?_, by simpa using ho, Nat.le_refl _, fun _ _ _ => rfl, fun j hj => .inl hj⟩
    have hs : sourceA 1 x H = some (0, []) := src_vw hx
    unfold appTy at ht
    split at ht
    case h_2 => cases ht
    rename_i e d he hd
    split at ht
    case h_2 => cases ht
    rename_i i z hi hz
    rw [Bool.cond_eq_ite] at ht
    split at ht
    case isFalse => cases ht
    simp only [Option.some.injEq, Prod.mk.injEq] at ht
    obtain ⟨h1, _, hd'⟩ := ht
    have hsrc : appSourceA i z d x H = some (0, []) := by
      unfold appSourceA
      rw [← h1] at hs
      cases d <;> first | exact hs | simp at hd'
    have hm0 : Nat.beq 0 0 = true := rfl
    simp only [appendA, he, hd, hi, hz, hsrc, hm0, cond_true, List.append_nil]
  | cons y ys =>
    obtain ⟨c', H', h1, h2, h3, h4⟩ := app_own (add := (y :: ys).map enc) (m := (y :: ys).length) ht (src_vw hx) (by simp) (by simp) (by
      rw [List.all_eq_true]; intro y hy
      rw [List.mem_map] at hy
      obtain ⟨z, _, rfl⟩ := hy
      exact (hv z).2) ho hb hb2
    refine ⟨some ⟨H.n, 0, none⟩, c', H', ?_, ?_, by omega, h4, ?_⟩
    · rw [h1, List.length_append]
    · rw [List.length_append, List.map_append]; exact h3
    · intro j hj
      simp only [blkA, List.mem_singleton] at hj
      exact .inr (by omega)
end Go.Ab
