/-
  The words of a text: letters alone, not too long; joined by spaces they are the same again. No conditions.
-/
import Derived.Test.YtnemoodjbekngaaTokLocal
namespace Go.Ab.Ytnemoodjbekngaa
open Go Go.Ab Go.Proofs
set_option maxHeartbeats 4000000
set_option maxRecDepth 100000
set_option linter.unusedSimpArgs false
set_option linter.unusedVariables false
attribute [local go_sem] M_seq M_region M_op M_opg ev_move ev_assign ev_bin ev_un ev_pick ev_index ev_call ev_conv ev_len ev_extract ev_fieldAddr ev_load ev_store ev_nilCheck ev_box ev_slice ev_append ev_indexAddr eval_tmp eval_const eval_func MX_val M_ops_nil M_skip put_some put_none M_block M_loop M_cond get_put_eq get_put_ne Fr.n_set bin_lss bin_eql bin_neq bin_geq bin_leq bin_gtr bin_add bin_sub bin_and bin_or bin_shl bin_seq bin_sne MCond_true MCond_false M_ret M_exit M_blk M_out_blk M_out_other M_out_code M_out_loop yv_some yb_bool yb_undef Bool.not_true Bool.not_false MG_on MG_tf MG_ft MG_none evPick_true evPick_false un_not List.getElem?_cons_succ List.getElem?_cons_zero Option.bind_some M_end mq_ret0 mq_ret1 mq_ret2 mq_ret3 mq_end0 mq_end1 mq_end2 evO_some evH_some nilc_ptr rd1_row wr1_row ov_bool ov_int ov_float ov_string ov_pointer ov_slice ov_map ov_func List.set_cons_zero List.set_cons_succ Nat.zero_add Option.map_some Option.map_none fillA_nil evExtract_tuple List.append_nil List.nil_append List.cons_append Heap.n_push Heap.n_put mq_retc RC_some rdN_row wrN_row takeN_zero takeN_succ setN_nil setN_cons List.drop_zero List.drop_succ_cons List.length_cons List.length_nil ev_max evMM_max ev_buildSlice ev_makeSlice ev_alloc ev_build ptrTo Option.isSome_some evCall_plain evCall_captured ev_clear ev_makeFunc List.map_toArray List.map_cons List.map_nil List.toList_toArray

/-- Letters one behind the other. -/
inductive Lets : List UInt8 → Prop
  | nil : Lets []
  | cons (c l : List UInt8) (h1 : (nextM (Bt c)).2 = c.length) (h2 : c ≠ []) (h3 : letterM (nextM (Bt c)).1 = true) (h4 : Lets l) : Lets (c ++ l)
theorem Lets.snoc {l c : List UInt8} (h : Lets l) (h1 : (nextM (Bt c)).2 = c.length) (h2 : c ≠ []) (h3 : letterM (nextM (Bt c)).1 = true) : Lets (l ++ c) := by
  induction h with
  | nil => have := Lets.cons c [] h1 h2 h3 .nil; simpa using this
  | cons d l g1 g2 g3 _ ih => rw [List.append_assoc]; exact .cons d _ g1 g2 g3 ih
def GoodW (w : ByteArray) : Prop := Lets w.data.toList ∧ 0 < w.size ∧ w.size ≤ 80
def Good (st : Sp) : Prop := (∀ w ∈ st.W, GoodW w) ∧ Lets st.X ∧ st.X.length ≤ 80
theorem good_end {st : Sp} (h : Good st) : Good (endM st) := by
  obtain ⟨h1, h2, h3⟩ := h
  refine ⟨fun w hw => ?_, .nil, by simp [endM]⟩
  have hw : w ∈ (if st.X = [] then st.W else st.W ++ [⟨st.X.toArray⟩]) := hw
  split at hw
  · exact h1 w hw
  · rename_i hX
    rcases List.mem_append.1 hw with hw | hw
    · exact h1 w hw
    · rw [List.mem_singleton.1 hw]
      exact ⟨h2, by show 0 < (Bt st.X).size; rw [bt_size]; exact List.length_pos_iff.2 hX, by show (Bt st.X).size ≤ 80; rw [bt_size]; exact h3⟩
theorem good_sign {st : Sp} (h : Good st) (r : Int) (c : List UInt8) (hc : letterM r = true → (nextM (Bt c)).2 = c.length ∧ c ≠ [] ∧ letterM (nextM (Bt c)).1 = true) : Good (signM st r (Bt c)) := by
  unfold signM
  split
  · rename_i hr
    obtain ⟨c1, c2, c3⟩ := hc hr
    have hb : ∀ st1 : Sp, Good st1 → Good (if (st1.full || decide ((80 : Int) < st1.X.length + (Bt c).size)) = true then { st1 with full := true } else { st1 with X := st1.X ++ (Bt c).data.toList, full := false }) := by
      intro st1 ⟨g1, g2, g3⟩
      split
      · exact ⟨g1, g2, g3⟩
      · rename_i hf
        simp only [Bool.or_eq_true, decide_eq_true_eq, not_or] at hf
        refine ⟨g1, g2.snoc c1 c2 c3, ?_⟩
        have := hf.2
        rw [bt_size] at this
        simp only [List.length_append, bt_list]; omega
    simp only
    split
    · exact hb _ ⟨h.1, h.2.1, h.2.2⟩
    · exact hb _ h
  · have he := good_end h
    simp only
    split
    · exact ⟨he.1, he.2.1, he.2.2⟩
    · split
      · exact ⟨he.1, he.2.1, he.2.2⟩
      · split
        · exact he
        · exact ⟨he.1, he.2.1, he.2.2⟩
theorem good_gl : ∀ (f : Nat) (st : Sp) (l : List UInt8), l.length ≤ f → Good st → Good (gl st l)
  | _, st, [], _, h => h
  | 0, st, b :: l, hf, h => by simp at hf
  | f + 1, st, b :: l, hf, h => by
    have hle := step_le (Bt (b :: l)) (by rw [bt_size]; simp)
    rw [bt_size] at hle
    rw [gl_step st (b :: l) (by simp)]
    refine good_gl f _ _ (by rw [List.length_drop]; simp only [List.length_cons] at hf hle ⊢; omega) (good_sign h _ _ fun hr => ?_)
    have hne : ¬ (Bt (b :: l)).size = 0 := by rw [bt_size]; simp
    have hn : 0 < (nextM (Bt (b :: l))).2 := by
      rcases Nat.lt_or_ge 0 (nextM (Bt (b :: l))).2 with hn | hn
      · exact hn
      · rcases next_ok _ hne with ⟨_, h2, _⟩ | h1 | h1
        · rw [h2] at hr; exact absurd hr (by decide)
        · omega
        · omega
    have hst : stepN (Bt (b :: l)) = (nextM (Bt (b :: l))).2 := by unfold stepN; omega
    have hlen : ((b :: l).take (stepN (Bt (b :: l)))).length = stepN (Bt (b :: l)) := by rw [List.length_take]; omega
    have e : nextM (Bt ((b :: l).take (stepN (Bt (b :: l))))) = nextM (Bt (b :: l)) := by
      refine next_local _ _ hn (by rw [bt_size, hlen]; omega) fun j hj => ?_
      rw [bt_at, bt_at, List.getD_eq_getElem?_getD, List.getD_eq_getElem?_getD, List.getElem?_take_of_lt (by omega)]
    rw [e, hlen]
    exact ⟨hst.symm, fun h0 => by rw [h0] at hlen; simp at hlen; omega, hr⟩
theorem split_good (s : ByteArray) : ∀ w ∈ (splitM s).W, GoodW w := by
  have h := good_end (good_gl s.data.toList.length sp0 s.data.toList (Nat.le_refl _) ⟨fun w hw => by simp [sp0] at hw, .nil, by simp [sp0]⟩)
  have e : splitM s = endM (gl sp0 s.data.toList) := by unfold splitM; rw [gl_eq]
  rw [e]; exact h.1
/-! ### Joined -/
theorem sign_in (st : Sp) (r : Int) (c : List UInt8) (hr : letterM r = true) (h0 : st.X ≠ []) (hf : st.full = false) (hl : st.X.length + c.length ≤ 80) : signM st r (Bt c) = { st with X := st.X ++ c } := by
  unfold signM
  rw [if_pos hr]
  simp only [if_neg h0]
  rw [if_neg (by rw [hf, bt_size]; simp; omega)]
  cases st; simp_all [bt_list]
theorem sign_first (st : Sp) (r : Int) (c : List UInt8) (hr : letterM r = true) (hX : st.X = []) (h1 : st.stop = false) (h2 : st.two = false) (h3 : st.full = false) (h4 : st.lines = 0) (hl : c.length ≤ 80) : signM st r (Bt c) = { st with X := c } := by
  unfold signM
  rw [if_pos hr]
  simp only [if_pos hX]
  have b : beginM st = st := by
    unfold beginM; rw [h1, h2]; cases st; simp_all
  rw [b, if_neg (by rw [h3, hX, bt_size]; simp; omega)]
  cases st; simp_all [bt_list]
theorem gl_in {w : List UInt8} (h : Lets w) : ∀ (st : Sp) (l : List UInt8), st.X ≠ [] → st.full = false → st.X.length + w.length ≤ 80 → gl st (w ++ l) = gl { st with X := st.X ++ w } l := by
  induction h with
  | nil => intro st l _ _ _; cases st; simp
  | cons c w h1 h2 h3 _ ih =>
    intro st l h0 hf hl
    rw [List.length_append] at hl
    rw [List.append_assoc, gl_sign st c (w ++ l) h1 h2, sign_in st _ c h3 h0 hf (by omega), ih { st with X := st.X ++ c } l (by simp [h0]) hf (by simp only [List.length_append]; omega)]
    simp only [List.append_assoc]
theorem gl_word {w : List UInt8} (h : Lets w) (hw : w ≠ []) (hl : w.length ≤ 80) (st : Sp) (l : List UInt8) (hX : st.X = []) (h1 : st.stop = false) (h2 : st.two = false) (h3 : st.full = false) (h4 : st.lines = 0) : gl st (w ++ l) = gl { st with X := w } l := by
  cases h with
  | nil => exact absurd rfl hw
  | cons c w g1 g2 g3 g4 =>
    rw [List.length_append] at hl
    rw [List.append_assoc, gl_sign st c (w ++ l) g1 g2, sign_first st _ c g3 hX h1 h2 h3 h4 (by omega), gl_in g4 { st with X := c } l g2 h3 hl]
def joinL (ws : List ByteArray) : List UInt8 := (ws.map fun w => w.data.toList ++ [32]).flatten
theorem gl_join : ∀ (ws : List ByteArray) (st : Sp), (∀ w ∈ ws, GoodW w) → st.X = [] → st.stop = false → st.two = false → st.full = false → st.lines = 0 → gl st (joinL ws) = { st with W := st.W ++ ws }
  | [], st, _, _, _, _, _, _ => by cases st; simp [joinL, gl_nil]
  | w :: ws, st, h, hX, h1, h2, h3, h4 => by
    obtain ⟨g1, g2, g3⟩ := h w (by simp)
    have hl : w.data.toList.length = w.size := rfl
    have hne : w.data.toList ≠ [] := fun e => by rw [e] at hl; simp at hl; omega
    have e : joinL (w :: ws) = w.data.toList ++ (32 :: joinL ws) := by simp [joinL]
    rw [e, gl_word g1 hne (by omega) st _ hX h1 h2 h3 h4, gl_ascii _ _ _ (by decide), sign_other _ _ _ (by decide)]
    have g : gs (st.stop, st.two, st.lines) ((32 : UInt8).toNat : Int) = (false, false, 0) := by rw [h1, h2, h4]; rfl
    simp only [g]
    have ee : endM { st with X := w.data.toList } = { st with W := st.W ++ [w], X := [] , full := false } := by
      unfold endM
      simp only [if_neg hne]
    rw [ee]
    have ih := gl_join ws { st with W := st.W ++ [w], X := [], full := false, stop := false, two := false, lines := 0 } (fun w hw => h w (by simp [hw])) rfl rfl rfl rfl rfl
    simp only at ih
    rw [ih]
    cases st; simp_all
theorem split_join (ws : List ByteArray) (h : ∀ w ∈ ws, GoodW w) : (splitM (Bt (joinL ws))).W = ws ∧ (splitM (Bt (joinL ws))).S = [] ∧ (splitM (Bt (joinL ws))).P = [] := by
  have e : splitM (Bt (joinL ws)) = endM (gl sp0 (joinL ws)) := by unfold splitM; rw [gl_eq]; rfl
  rw [e, gl_join ws sp0 h rfl rfl rfl rfl rfl]
  simp [endM, sp0]
theorem joinL_len : ∀ (ws : List ByteArray), (∀ w ∈ ws, GoodW w) → (joinL ws).length ≤ 81 * ws.length
  | [], _ => by simp [joinL]
  | w :: ws, h => by
    have ih := joinL_len ws fun w hw => h w (by simp [hw])
    obtain ⟨_, _, g3⟩ := h w (by simp)
    have hl : w.data.toList.length = w.size := rfl
    have e : joinL (w :: ws) = w.data.toList ++ (32 :: joinL ws) := by simp [joinL]
    rw [e, List.length_append, List.length_cons, List.length_cons, hl]; omega
end Go.Ab.Ytnemoodjbekngaa
