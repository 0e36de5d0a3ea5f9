/-
  Two texts with a gap between: the words of both, and what is told of the parts. No conditions.
-/
import Derived.Test.YtnemoodjbekngaaTokWords
namespace Go.Ab.Ytnemoodjbekngaa
open Go Go.Ab Go.Proofs
set_option maxHeartbeats 4000000
set_option maxRecDepth 100000
set_option linter.unusedSimpArgs false
set_option linter.unusedVariables false
attribute [local go_sem] M_seq M_region M_op M_opg ev_move ev_assign ev_bin ev_un ev_pick ev_index ev_call ev_conv ev_len ev_extract ev_fieldAddr ev_load ev_store ev_nilCheck ev_box ev_slice ev_append ev_indexAddr eval_tmp eval_const eval_func MX_val M_ops_nil M_skip put_some put_none M_block M_loop M_cond get_put_eq get_put_ne Fr.n_set bin_lss bin_eql bin_neq bin_geq bin_leq bin_gtr bin_add bin_sub bin_and bin_or bin_shl bin_seq bin_sne MCond_true MCond_false M_ret M_exit M_blk M_out_blk M_out_other M_out_code M_out_loop yv_some yb_bool yb_undef Bool.not_true Bool.not_false MG_on MG_tf MG_ft MG_none evPick_true evPick_false un_not List.getElem?_cons_succ List.getElem?_cons_zero Option.bind_some M_end mq_ret0 mq_ret1 mq_ret2 mq_ret3 mq_end0 mq_end1 mq_end2 evO_some evH_some nilc_ptr rd1_row wr1_row ov_bool ov_int ov_float ov_string ov_pointer ov_slice ov_map ov_func List.set_cons_zero List.set_cons_succ Nat.zero_add Option.map_some Option.map_none fillA_nil evExtract_tuple List.append_nil List.nil_append List.cons_append Heap.n_push Heap.n_put mq_retc RC_some rdN_row wrN_row takeN_zero takeN_succ setN_nil setN_cons List.drop_zero List.drop_succ_cons List.length_cons List.length_nil ev_max evMM_max ev_buildSlice ev_makeSlice ev_alloc ev_build ptrTo Option.isSome_some evCall_plain evCall_captured ev_clear ev_makeFunc List.map_toArray List.map_cons List.map_nil List.toList_toArray

theorem dd_mem (k : Int) : ∀ l : List Int, k ∈ dd l ↔ k ∈ l
  | [] => Iff.rfl
  | [x] => Iff.rfl
  | x :: y :: l => by
    have ih := dd_mem k (y :: l)
    rw [dd]
    split
    · rename_i h; subst h
      rw [ih]; simp
    · rw [List.mem_cons, List.mem_cons, ih]
theorem inner_mem (k : Int) (l : List Int) : k ∈ innerM l ↔ k ∈ l ∧ k ≠ 0 := by
  unfold innerM
  rw [dd_mem, List.mem_filter]
  simp [zeroP]
/-- Told of the second text alone, and of it behind the first one. -/
structure J (para : Bool) (Wa : List ByteArray) (Sa : List Int) (p q : Sp) : Prop where
  W : q.W = Wa ++ p.W
  X : q.X = p.X
  full : q.full = p.full
  lines : q.lines = p.lines
  stop : p.stop = true → q.stop = true
  two : p.two = true → q.two = true
  S : ∀ k ∈ Sa, k ∈ q.S
  P : ∀ k ∈ p.P, 0 ≤ k ∧ (Wa.length : Int) + k ∈ q.P
  started : p.W ≠ [] ∨ p.X ≠ [] → (Wa.length : Int) ∈ q.S ∧ (para = true → (Wa.length : Int) ∈ q.P)
  fresh : ¬ (p.W ≠ [] ∨ p.X ≠ []) → (q.stop || q.two) = true ∧ (para = true → q.two = true)
  empty : p.X = [] → p.full = false
theorem J.end {para : Bool} {Wa : List ByteArray} {Sa : List Int} {p q : Sp} (h : J para Wa Sa p q) : J para Wa Sa (endM p) (endM q) := by
  have hW : (endM p).W = if p.X = [] then p.W else p.W ++ [⟨p.X.toArray⟩] := rfl
  refine ⟨?_, rfl, rfl, h.lines, h.stop, h.two, h.S, h.P, fun hs => ?_, fun hs => ?_, fun _ => rfl⟩
  · show (if q.X = [] then q.W else q.W ++ [⟨q.X.toArray⟩]) = Wa ++ (if p.X = [] then p.W else p.W ++ [⟨p.X.toArray⟩])
    rw [h.X, h.W]; split <;> simp
  · refine h.started ?_
    rcases hs with hs | hs
    · by_cases hX : p.X = []
      · rw [hW, if_pos hX] at hs; exact .inl hs
      · exact .inr hX
    · exact absurd rfl hs
  · refine h.fresh fun hh => hs ?_
    left
    rw [hW]
    rcases hh with hh | hh
    · split
      · exact hh
      · simp
    · rw [if_neg hh]; simp
theorem gs_mono {s1 t1 s2 t2 : Bool} {n : Int} (c : Int) (hs : s1 = true → s2 = true) (ht : t1 = true → t2 = true) : ((gs (s1, t1, n) c).1 = true → (gs (s2, t2, n) c).1 = true) ∧ ((gs (s1, t1, n) c).2.1 = true → (gs (s2, t2, n) c).2.1 = true) ∧ (gs (s2, t2, n) c).2.2 = (gs (s1, t1, n) c).2.2 ∧ (s2 = true → (gs (s2, t2, n) c).1 = true) ∧ (t2 = true → (gs (s2, t2, n) c).2.1 = true) := by
  unfold gs
  split
  · exact ⟨fun _ => rfl, ht, rfl, fun _ => rfl, fun h => h⟩
  · split
    · refine ⟨hs, ?_, rfl, fun h => h, fun h => by simp [h]⟩
      simp only [Bool.or_eq_true]
      rintro (h | h)
      · exact .inl (ht h)
      · exact .inr h
    · split
      · exact ⟨hs, ht, rfl, fun h => h, fun h => h⟩
      · exact ⟨hs, ht, rfl, fun h => h, fun h => h⟩
theorem J.other {para : Bool} {Wa : List ByteArray} {Sa : List Int} {p q : Sp} (h : J para Wa Sa p q) (r : Int) (c : ByteArray) (hr : letterM r = false) : J para Wa Sa (signM p r c) (signM q r c) := by
  rw [sign_other p r c hr, sign_other q r c hr]
  have he := h.end
  have l : q.lines = p.lines := h.lines
  obtain ⟨m1, m2, m3, m4, m5⟩ := gs_mono (n := p.lines) r h.stop h.two
  rw [l]
  refine ⟨he.W, rfl, rfl, m3, m1, m2, he.S, he.P, he.started, fun hs => ?_, fun _ => rfl⟩
  obtain ⟨f1, f2⟩ := he.fresh hs
  refine ⟨?_, fun hp => m5 (f2 hp)⟩
  have f1 : (q.stop || q.two) = true := f1
  simp only [Bool.or_eq_true] at f1 ⊢
  rcases f1 with f1 | f1
  · exact .inl (m4 f1)
  · exact .inr (m5 f1)
theorem J.begin {para : Bool} {Wa : List ByteArray} {Sa : List Int} {p q : Sp} (h : J para Wa Sa p q) (c : List UInt8) (hX : p.X = []) (hc : c ≠ []) : J para Wa Sa { beginM p with X := c } { beginM q with X := c } := by
  have hl : (q.W.length : Int) = Wa.length + p.W.length := by rw [h.W, List.length_append]; omega
  have hS : ∀ k ∈ q.S, k ∈ (beginM q).S := fun k hk => by
    show k ∈ (if q.stop || q.two then q.S ++ [(q.W.length : Int)] else q.S)
    split
    · exact List.mem_append.2 (.inl hk)
    · exact hk
  have hP : ∀ k ∈ q.P, k ∈ (beginM q).P := fun k hk => by
    show k ∈ (if q.two then q.P ++ [(q.W.length : Int)] else q.P)
    split
    · exact List.mem_append.2 (.inl hk)
    · exact hk
  refine ⟨h.W, rfl, h.full, rfl, fun hh => hh, fun hh => hh, fun k hk => hS k (h.S k hk), fun k hk => ?_, fun _ => ?_, fun hs => absurd (.inr hc) hs, fun hh => absurd hh hc⟩
  · have hk : k ∈ (if p.two then p.P ++ [(p.W.length : Int)] else p.P) := hk
    split at hk
    · rename_i ht
      rcases List.mem_append.1 hk with hk | hk
      · exact ⟨(h.P k hk).1, hP _ (h.P k hk).2⟩
      · rw [List.mem_singleton.1 hk]
        refine ⟨by omega, ?_⟩
        show _ ∈ (if q.two then q.P ++ [(q.W.length : Int)] else q.P)
        rw [if_pos (h.two ht), ← hl]
        simp
    · exact ⟨(h.P k hk).1, hP _ (h.P k hk).2⟩
  · by_cases hs : p.W ≠ [] ∨ p.X ≠ []
    · obtain ⟨s1, s2⟩ := h.started hs
      exact ⟨hS _ s1, fun hp => hP _ (s2 hp)⟩
    · obtain ⟨f1, f2⟩ := h.fresh hs
      have hw : p.W = [] := by
        cases hw : p.W with
        | nil => rfl
        | cons a l => exact absurd (.inl (by rw [hw]; simp)) hs
      have hl2 : (q.W.length : Int) = Wa.length := by rw [hl, hw]; simp
      refine ⟨?_, fun hp => ?_⟩
      · show _ ∈ (if q.stop || q.two then q.S ++ [(q.W.length : Int)] else q.S)
        rw [if_pos f1, hl2]; simp
      · show _ ∈ (if q.two then q.P ++ [(q.W.length : Int)] else q.P)
        rw [if_pos (f2 hp), hl2]; simp
theorem J.letter {para : Bool} {Wa : List ByteArray} {Sa : List Int} {p q : Sp} (h : J para Wa Sa p q) (r : Int) (c : List UInt8) (hr : letterM r = true) (hc : c ≠ []) (hl : c.length ≤ 80) : J para Wa Sa (signM p r (Bt c)) (signM q r (Bt c)) := by
  by_cases hX : p.X = []
  · have hXq : q.X = [] := h.X.trans hX
    have hf := h.empty hX
    have hfq : q.full = false := h.full.trans hf
    have key : ∀ st : Sp, st.X = [] → st.full = false → signM st r (Bt c) = { beginM st with X := c, full := false } := by
      intro st h1 h2
      unfold signM
      rw [if_pos hr]
      simp only [if_pos h1]
      have b1 : (beginM st).full = st.full := rfl
      have b2 : (beginM st).X = st.X := rfl
      rw [if_neg (by rw [b1, b2, h1, h2, bt_size]; simp; omega), b2, h1]
      rfl
    rw [key p hX hf, key q hXq hfq]
    have := h.begin c hX hc
    have e1 : ({ beginM p with X := c, full := false } : Sp) = { beginM p with X := c } := by
      have : (beginM p).full = false := hf
      cases hb : beginM p; simp_all
    have e2 : ({ beginM q with X := c, full := false } : Sp) = { beginM q with X := c } := by
      have : (beginM q).full = false := hfq
      cases hb : beginM q; simp_all
    rw [e1, e2]; exact this
  · have hXq : q.X ≠ [] := fun e => hX (h.X.symm.trans e)
    have hst := h.started (.inr hX)
    unfold signM
    rw [if_pos hr, if_pos hr]
    simp only [if_neg hX, if_neg hXq]
    rw [h.full, h.X]
    split
    · exact ⟨h.W, rfl, rfl, h.lines, h.stop, h.two, h.S, h.P, fun _ => hst, fun hs => absurd (.inr hX) hs, fun hh => absurd hh hX⟩
    · have hne : p.X ++ (Bt c).data.toList ≠ [] := by simp [hX]
      exact ⟨h.W, rfl, rfl, h.lines, h.stop, h.two, h.S, h.P, fun _ => hst, fun hs => absurd (.inr hne) hs, fun hh => absurd hh hne⟩
theorem J.gl {para : Bool} {Wa : List ByteArray} {Sa : List Int} : ∀ (f : Nat) (p q : Sp) (l : List UInt8), l.length ≤ f → J para Wa Sa p q → J para Wa Sa (gl p l) (gl q l)
  | _, p, q, [], _, h => h
  | 0, p, q, b :: l, hf, h => by simp at hf
  | f + 1, p, q, b :: l, hf, h => by
    have hle := step_le (Bt (b :: l)) (by rw [bt_size]; simp)
    rw [bt_size] at hle
    rw [gl_step p (b :: l) (by simp), gl_step q (b :: l) (by simp)]
    have hlen : ((b :: l).take (stepN (Bt (b :: l)))).length = stepN (Bt (b :: l)) := by rw [List.length_take]; omega
    refine J.gl f _ _ _ (by rw [List.length_drop]; simp only [List.length_cons] at hf hle ⊢; omega) ?_
    have h4 : stepN (Bt (b :: l)) ≤ 4 := by
      unfold stepN
      have hne : ¬ (Bt (b :: l)).size = 0 := by rw [bt_size]; simp
      rcases next_ok _ hne with h1 | h1 | h1 <;> omega
    cases hr : letterM (nextM (Bt (b :: l))).1
    · exact h.other _ _ hr
    · exact h.letter _ _ hr (fun e => by rw [e] at hlen; simp at hlen; omega) (by omega)
def gapL (para : Bool) : List UInt8 := if para then [44, 10, 10, 44] else [32, 44, 46]
theorem gap_state (para : Bool) (st : Sp) : ∃ q, gl st (gapL para) = q ∧ q.W = (endM st).W ∧ q.X = [] ∧ q.full = false ∧ q.lines = 0 ∧ q.S = st.S ∧ (q.stop || q.two) = true ∧ (para = true → q.two = true) := by
  refine ⟨_, rfl, ?_⟩
  have e2 : ∀ st : Sp, st.X = [] → endM st = { st with full := false } := fun st h => by unfold endM; rw [if_pos h]; cases st; simp_all
  cases para
  · simp only [gapL, Bool.false_eq_true, if_false]
    rw [gl_ascii _ _ _ (by decide), sign_other _ _ _ (by decide), gl_ascii _ _ _ (by decide), sign_other _ _ _ (by decide), gl_ascii _ _ _ (by decide), sign_other _ _ _ (by decide), gl_nil, e2 _ rfl, e2 _ rfl]
    refine ⟨rfl, rfl, rfl, ?_, rfl, ?_, fun h => by cases h⟩
    · simp [gs]
    · simp [gs]
  · simp only [gapL, if_true]
    rw [gl_ascii _ _ _ (by decide), sign_other _ _ _ (by decide), gl_ascii _ _ _ (by decide), sign_other _ _ _ (by decide), gl_ascii _ _ _ (by decide), sign_other _ _ _ (by decide), gl_ascii _ _ _ (by decide), sign_other _ _ _ (by decide), gl_nil, e2 _ rfl, e2 _ rfl, e2 _ rfl]
    refine ⟨rfl, rfl, rfl, ?_, rfl, ?_, fun _ => ?_⟩
    · simp [gs]
    · simp [gs]
    · simp [gs]
theorem split_bound (s : ByteArray) : ∀ k ∈ (splitM s).S, k < ((splitM s).W.length : Int) := by
  obtain ⟨h, hx⟩ := side_end (side_go s.size l0 sp0 s (Nat.le_refl _) side_start)
  obtain ⟨_, _, _, _, h5, _⟩ := h.none hx
  exact h5
theorem split_boundP (s : ByteArray) : ∀ k ∈ (splitM s).P, k < ((splitM s).W.length : Int) := by
  obtain ⟨h, hx⟩ := side_end (side_go s.size l0 sp0 s (Nat.le_refl _) side_start)
  obtain ⟨_, _, _, _, _, h6⟩ := h.none hx
  exact h6
theorem joins (a b : List UInt8) (para : Bool) :
    (splitM (Bt (a ++ gapL para ++ b))).W = (splitM (Bt a)).W ++ (splitM (Bt b)).W ∧ (∀ k ∈ (splitM (Bt a)).S, k ∈ (splitM (Bt (a ++ gapL para ++ b))).S) ∧ (∀ k ∈ (splitM (Bt b)).P, 0 ≤ k ∧ ((splitM (Bt a)).W.length : Int) + k ∈ (splitM (Bt (a ++ gapL para ++ b))).P) ∧
      ((splitM (Bt b)).W ≠ [] → ((splitM (Bt a)).W.length : Int) ∈ (splitM (Bt (a ++ gapL para ++ b))).S ∧ (para = true → ((splitM (Bt a)).W.length : Int) ∈ (splitM (Bt (a ++ gapL para ++ b))).P)) := by
  have e : ∀ l, splitM (Bt l) = endM (gl sp0 l) := fun l => by unfold splitM; rw [gl_eq]; rfl
  have hh : ∀ x ∈ (gapL para ++ b).head?, x.toNat < 128 := by
    intro x hx
    cases para
    · simp [gapL] at hx; subst hx; decide
    · simp [gapL] at hx; subst hx; decide
  have hg : ∀ x ∈ (gapL para).head?, x.toNat < 128 := by
    intro x hx
    cases para
    · simp [gapL] at hx; subst hx; decide
    · simp [gapL] at hx; subst hx; decide
  obtain ⟨q, hq, q1, q2, q3, q4, q5, q6, q7⟩ := gap_state para (gl sp0 a)
  have hz : ∃ c, gl sp0 (a ++ gapL para ++ b) = gl c b ∧ c = q := by
    refine ⟨q, ?_, rfl⟩
    rw [List.append_assoc, gl_append a.length sp0 a (gapL para ++ b) (Nat.le_refl _) hh]
    have : ∀ st : Sp, gl st (gapL para ++ b) = gl (gl st (gapL para)) b := by
      intro st
      cases para
      · simp only [gapL, Bool.false_eq_true, if_false, List.cons_append, List.nil_append]
        rw [gl_ascii _ _ _ (by decide), gl_ascii _ _ _ (by decide), gl_ascii _ _ _ (by decide), gl_ascii _ _ _ (by decide), gl_ascii _ _ _ (by decide), gl_ascii _ _ _ (by decide), gl_nil]
      · simp only [gapL, if_true, List.cons_append, List.nil_append]
        rw [gl_ascii _ _ _ (by decide), gl_ascii _ _ _ (by decide), gl_ascii _ _ _ (by decide), gl_ascii _ _ _ (by decide), gl_ascii _ _ _ (by decide), gl_ascii _ _ _ (by decide), gl_ascii _ _ _ (by decide), gl_ascii _ _ _ (by decide), gl_nil]
    rw [this, hq]
  obtain ⟨c, hc, rfl⟩ := hz
  have h0 : J para (splitM (Bt a)).W (splitM (Bt a)).S sp0 c := by
    rw [e a]
    refine ⟨?_, q2, q3, q4, fun h => absurd h (by decide), fun h => absurd h (by decide), fun k hk => by rw [q5]; exact hk, fun k hk => by simp [sp0] at hk, fun h => ?_, fun _ => ⟨q6, q7⟩, fun _ => rfl⟩
    · rw [q1]; simp [sp0]
    · rcases h with h | h <;> exact absurd rfl h
  have hJ := (J.gl b.length _ _ b (Nat.le_refl _) h0).end
  rw [← hc, ← e, ← e] at hJ
  exact ⟨hJ.W, hJ.S, hJ.P, fun h => hJ.started (.inl h)⟩
end Go.Ab.Ytnemoodjbekngaa
