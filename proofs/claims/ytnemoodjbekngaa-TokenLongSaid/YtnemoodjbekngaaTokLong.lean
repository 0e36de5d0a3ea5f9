/-
  TokenLong answers true. No conditions.
-/
import Derived.Test.YtnemoodjbekngaaTokLocal
namespace Go.Ab.Ytnemoodjbekngaa
open Go Go.Ab Go.Proofs
set_option maxHeartbeats 4000000
set_option maxRecDepth 100000
set_option linter.unusedSimpArgs false
set_option linter.unusedVariables false
attribute [local go_sem] M_seq M_region M_op M_opg ev_move ev_assign ev_bin ev_un ev_pick ev_index ev_call ev_conv ev_len ev_extract ev_fieldAddr ev_load ev_store ev_nilCheck ev_box ev_slice ev_append ev_indexAddr eval_tmp eval_const eval_func MX_val M_ops_nil M_skip put_some put_none M_block M_loop M_cond get_put_eq get_put_ne Fr.n_set bin_lss bin_eql bin_neq bin_geq bin_leq bin_gtr bin_add bin_sub bin_and bin_or bin_shl bin_seq bin_sne MCond_true MCond_false M_ret M_exit M_blk M_out_blk M_out_other M_out_code M_out_loop yv_some yb_bool yb_undef Bool.not_true Bool.not_false MG_on MG_tf MG_ft MG_none evPick_true evPick_false un_not List.getElem?_cons_succ List.getElem?_cons_zero Option.bind_some M_end mq_ret0 mq_ret1 mq_ret2 mq_ret3 mq_end0 mq_end1 mq_end2 evO_some evH_some nilc_ptr rd1_row wr1_row ov_bool ov_int ov_float ov_string ov_pointer ov_slice ov_map ov_func List.set_cons_zero List.set_cons_succ Nat.zero_add Option.map_some Option.map_none fillA_nil evExtract_tuple List.append_nil List.nil_append List.cons_append Heap.n_push Heap.n_put mq_retc RC_some rdN_row wrN_row takeN_zero takeN_succ setN_nil setN_cons List.drop_zero List.drop_succ_cons List.length_cons List.length_nil ev_max evMM_max ev_buildSlice ev_makeSlice ev_alloc ev_build ptrTo Option.isSome_some evCall_plain evCall_captured ev_clear ev_makeFunc List.map_toArray List.map_cons List.map_nil List.toList_toArray

def ee (j : Nat) : List UInt8 := (List.replicate j [195, 169]).flatten
theorem ee_succ (j : Nat) : ee (j + 1) = ee j ++ [195, 169] := by
  unfold ee
  rw [List.replicate_succ', List.flatten_append]; rfl
theorem ee_len (j : Nat) : (ee j).length = 2 * j := by
  induction j with
  | zero => rfl
  | succ j ih => rw [ee_succ, List.length_append, ih]; simp; omega
theorem ee_take : ∀ j q, q ≤ j → (ee j).take (2 * q) = ee q
  | 0, q, h => by rw [show q = 0 by omega]; rfl
  | j + 1, q, h => by
    by_cases hq : q = j + 1
    · rw [hq, List.take_of_length_le (by rw [ee_len]; omega)]
    · rw [ee_succ, List.take_append_of_le_length (by rw [ee_len]; omega), ee_take j q (by omega)]
def stE (k j : Nat) : Sp := ⟨[], [], [], List.replicate (min k 80) 97 ++ ee (min j ((80 - min k 80) / 2)), decide (80 < k) || decide ((80 - min k 80) / 2 < j), 0, false, false⟩
theorem stE_zero : stE 0 0 = sp0 := by
  unfold stE sp0 ee; simp
theorem sign_new (st : Sp) (r : Int) (s : ByteArray) (hr : letterM r = true) (hX : st.X = []) (h1 : st.stop = false) (h2 : st.two = false) (h3 : st.full = false) (hs : s.size ≤ 80) : signM st r s = { st with X := s.data.toList, full := false, lines := 0 } := by
  unfold signM
  rw [if_pos hr]
  simp only [if_pos hX]
  have b : beginM st = { st with lines := 0 } := by
    unfold beginM; rw [h1, h2]; cases st; simp_all
  rw [b]
  simp only [h3, hX]
  rw [if_neg (by simp; omega)]
  simp
theorem sign_more (st : Sp) (r : Int) (s : ByteArray) (hr : letterM r = true) (hX : st.X ≠ []) : signM st r s = if (st.full || decide ((80 : Int) < st.X.length + s.size)) = true then { st with full := true } else { st with X := st.X ++ s.data.toList, full := false } := by
  unfold signM
  rw [if_pos hr]
  simp only [if_neg hX]
theorem stE_X (k j : Nat) : (stE k j).X.length = min k 80 + 2 * min j ((80 - min k 80) / 2) := by
  simp only [stE, List.length_append, List.length_replicate, ee_len]
theorem stA_step (k : Nat) : signM (stE k 0) 97 (Bt [97]) = stE (k + 1) 0 := by
  by_cases hk : k = 0
  · subst hk
    rw [sign_new (stE 0 0) 97 _ (by decide) (by rw [stE_zero]; rfl) rfl rfl (by rw [stE_zero]; rfl) (by rw [bt_size]; simp)]
    simp [stE, ee, bt_list]
  · have hX : (stE k 0).X ≠ [] := fun e => by
      have := stE_X k 0; rw [e] at this; simp at this; omega
    rw [sign_more _ _ _ (by decide) hX, stE_X]
    by_cases h80 : k < 80
    · rw [if_neg (by simp [stE, bt_size]; omega)]
      simp only [stE, bt_list]
      rw [show min k 80 = k by omega, show min (k + 1) 80 = k + 1 by omega, List.replicate_succ']
      simp [ee]; omega
    · rw [if_pos (by simp [stE, bt_size]; omega)]
      simp only [stE]
      rw [show min k 80 = 80 by omega, show min (k + 1) 80 = 80 by omega]
      simp; omega
theorem stE_step (k j : Nat) : signM (stE k j) 233 (Bt [195, 169]) = stE k (j + 1) := by
  by_cases hk : k + j = 0
  · obtain rfl : k = 0 := by omega
    obtain rfl : j = 0 := by omega
    rw [sign_new (stE 0 0) 233 _ (by decide) (by rw [stE_zero]; rfl) rfl rfl (by rw [stE_zero]; rfl) (by rw [bt_size]; simp)]
    simp [stE, ee, bt_list]
  · have hX : (stE k j).X ≠ [] := fun e => by
      have := stE_X k j; rw [e] at this; simp at this; omega
    rw [sign_more _ _ _ (by decide) hX, stE_X]
    by_cases hf : 80 < k ∨ (80 - min k 80) / 2 < j
    · rw [if_pos (by simp only [stE, Bool.or_eq_true, decide_eq_true_eq]; exact .inl hf)]
      simp only [stE]
      rw [show min (j + 1) ((80 - min k 80) / 2) = min j ((80 - min k 80) / 2) by omega]
      congr 1
      rw [eq_comm, Bool.or_eq_true, decide_eq_true_eq, decide_eq_true_eq]; omega
    · have hk80 : min k 80 = k := by omega
      by_cases h2 : 80 < k + 2 * j + 2
      · rw [if_pos (by simp only [stE, Bool.or_eq_true, decide_eq_true_eq, bt_size]; right; simp; omega)]
        simp only [stE]
        rw [show min (j + 1) ((80 - min k 80) / 2) = min j ((80 - min k 80) / 2) by omega]
        congr 1
        rw [eq_comm, Bool.or_eq_true, decide_eq_true_eq, decide_eq_true_eq]; omega
      · rw [if_neg (by simp only [stE, Bool.or_eq_true, decide_eq_true_eq, bt_size]; simp; omega)]
        simp only [stE, bt_list]
        rw [show min (j + 1) ((80 - min k 80) / 2) = j + 1 by omega, show min j ((80 - min k 80) / 2) = j by omega, ee_succ, List.append_assoc]
        congr 1
        rw [eq_comm, Bool.or_eq_false_iff, decide_eq_false_iff_not, decide_eq_false_iff_not]; omega
theorem gl_as : ∀ (n k : Nat) (l : List UInt8), gl (stE k 0) (List.replicate n 97 ++ l) = gl (stE (k + n) 0) l
  | 0, k, l => rfl
  | n + 1, k, l => by
    rw [List.replicate_succ, List.cons_append, gl_ascii _ _ _ (by decide)]
    show gl (signM (stE k 0) 97 (Bt [97])) _ = _
    rw [stA_step, gl_as n (k + 1) l]
    congr 2; omega
theorem next_e : nextM (Bt [195, 169]) = (233, 2) := by kernel_rfl
theorem gl_es : ∀ (n k j : Nat) (l : List UInt8), gl (stE k j) (ee n ++ l) = gl (stE k (j + n)) l
  | 0, k, j, l => rfl
  | n + 1, k, j, l => by
    have e : ee (n + 1) ++ l = [195, 169] ++ (ee n ++ l) := by
      unfold ee; rw [List.replicate_succ, List.flatten_cons, List.append_assoc]
    rw [e, gl_sign _ _ _ (by rw [next_e]; rfl) (by simp), next_e]
    show gl (signM (stE k j) 233 (Bt [195, 169])) _ = _
    rw [stE_step, gl_es n k (j + 1) l]
    congr 2; omega
def endB : List UInt8 := [101, 110, 100]
theorem gl_end (st : Sp) (hl : st.X ≠ []) (h1 : st.stop = false) (h2 : st.two = false) (h3 : st.lines = 0) : (endM (gl st (32 :: endB))).W = st.W ++ [Bt st.X, Bt endB] := by
  unfold endB
  rw [gl_ascii _ _ _ (by decide), sign_other _ _ _ (by decide)]
  have g : gs (st.stop, st.two, st.lines) ((32 : UInt8).toNat : Int) = (false, false, 0) := by rw [h1, h2, h3]; rfl
  rw [g]
  have e : endM st = { st with W := st.W ++ [Bt st.X], X := [], full := false } := by unfold endM; rw [if_neg hl]; rfl
  rw [e, gl_ascii _ _ _ (by decide), sign_new _ _ _ (by decide) rfl rfl rfl rfl (by rw [bt_size]; simp)]
  rw [gl_ascii _ _ _ (by decide), sign_more _ _ _ (by decide) (by simp [bt_list]), if_neg (by simp [bt_list, bt_size])]
  rw [gl_ascii _ _ _ (by decide), sign_more _ _ _ (by decide) (by simp [bt_list]), if_neg (by simp [bt_list, bt_size]), gl_nil]
  unfold endM
  simp [bt_list, Bt]
theorem gl_end0 : (endM (gl sp0 (32 :: endB))).W = [Bt endB] := by kernel_rfl
theorem long_words (n m : Nat) : (splitM (Bt (List.replicate n 97 ++ (ee m ++ 32 :: endB)))).W = if n + m = 0 then [Bt endB] else [Bt (stE n m).X, Bt endB] := by
  unfold splitM
  rw [gl_eq, bt_list, ← stE_zero, gl_as, gl_es, Nat.zero_add, Nat.zero_add]
  split
  · rename_i h
    obtain rfl : n = 0 := by omega
    obtain rfl : m = 0 := by omega
    rw [stE_zero]; exact gl_end0
  · rename_i h
    exact gl_end _ (fun e => by have := stE_X n m; rw [e] at this; simp at this; omega) rfl rfl rfl
end Go.Ab.Ytnemoodjbekngaa
