/-
  The example of the statements' package: it holds, in any memory, and leaves what is there. No conditions.
-/
import Derived.Test.YtnemoodjbekngaaTokSplit2
namespace Go.Ab.Ytnemoodjbekngaa
open Go Go.Ab Go.Proofs
set_option maxHeartbeats 4000000
set_option maxRecDepth 100000
set_option linter.unusedSimpArgs false
set_option linter.unusedVariables false
attribute [local go_sem] M_seq M_region M_op M_opg ev_move ev_assign ev_bin ev_un ev_pick ev_index ev_call ev_conv ev_len ev_extract ev_fieldAddr ev_load ev_store ev_nilCheck ev_box ev_slice ev_append ev_indexAddr eval_tmp eval_const eval_func MX_val M_ops_nil M_skip put_some put_none M_block M_loop M_cond get_put_eq get_put_ne Fr.n_set bin_lss bin_eql bin_neq bin_geq bin_leq bin_gtr bin_add bin_sub bin_and bin_or bin_shl bin_seq bin_sne MCond_true MCond_false M_ret M_exit M_blk M_out_blk M_out_other M_out_code M_out_loop yv_some yb_bool yb_undef Bool.not_true Bool.not_false MG_on MG_tf MG_ft MG_none evPick_true evPick_false un_not List.getElem?_cons_succ List.getElem?_cons_zero Option.bind_some M_end mq_ret0 mq_ret1 mq_ret2 mq_ret3 mq_end0 mq_end1 mq_end2 evO_some evH_some nilc_ptr rd1_row wr1_row ov_bool ov_int ov_float ov_string ov_pointer ov_slice ov_map ov_func List.set_cons_zero List.set_cons_succ Nat.zero_add Option.map_some Option.map_none fillA_nil evExtract_tuple List.append_nil List.nil_append List.cons_append Heap.n_push Heap.n_put mq_retc RC_some rdN_row wrN_row takeN_zero takeN_succ setN_nil setN_cons List.drop_zero List.drop_succ_cons List.length_cons List.length_nil ev_max evMM_max ev_buildSlice ev_makeSlice ev_alloc ev_build ptrTo Option.isSome_some evCall_plain evCall_captured ev_clear ev_makeFunc List.map_toArray List.map_cons List.map_nil List.toList_toArray

def exS : ByteArray := ⟨#[84, 104, 101, 32, 99, 97, 116, 46, 32, 73, 116, 32, 115, 97, 116, 33]⟩
def exW : List ByteArray := [⟨#[84, 104, 101]⟩, ⟨#[99, 97, 116]⟩, ⟨#[73, 116]⟩, ⟨#[115, 97, 116]⟩]
theorem ex_W : (splitM exS).W = exW := by kernel_rfl
theorem ex_S : innerM (splitM exS).S = [2] := by kernel_rfl
theorem ex_P : innerM (splitM exS).P = [] := by kernel_rfl
theorem head_run (H : Heap) : CallsA Try.prog noprim 16 #[] H fun v H' => v = .bool true ∧ H.n ≤ H'.n ∧ ∀ j, j < H.n → H'.get j = H.get j := by
  (refine calls_go (fn := Try.f16) (n := 33) (rs := [.tmp 0]) rfl Try.func16 rfl rfl rfl rfl ?_; intro fr hn hg; clear hg)
  repeat' (first | simp (maxSteps := 1000000) (decide := true) only [go_sem, List.getElem_cons_zero, List.getElem_cons_succ, Nat.reduceAdd, str_empty, eI, eS, eB, Int.toNat_zero, Int.reduceAdd, Int.reduceSub, Int.reduceToNat, Int.reduceMul, decide_false, decide_true, *] | simp (maxSteps := 1000000) (disch := first | omega | (simp only [Heap.n_push, Heap.n_put] <;> omega) | decide) only [w64, w32, wu8, Int.toNat_natCast, index_str Try.underlying9, slice_hi Try.underlying9, slice_lo Try.underlying9, slice_lohi Try.underlying9, decide_eq_true, decide_eq_false, hget_push_lt, hget_push_at, hget_put_ne, hget_put_at] | rw [M_draw (n := 33) (by first | with_reducible assumption | (simp only [put_some, put_none, Fr.n_set, *])) (by kernel_rfl)] | refine mcond_dec (fun _ => ?_) (fun _ => ?_) | refine mcond_ndec (fun _ => ?_) (fun _ => ?_) | refine mg_t_dec (fun _ => ?_) (fun _ => ?_) | refine mg_f_dec (fun _ => ?_) (fun _ => ?_) | refine mg_t_ndec (fun _ => ?_) (fun _ => ?_) | refine mg_f_ndec (fun _ => ?_) (fun _ => ?_) | refine mcond_cases (fun _ => ?_) (fun _ => ?_) | refine mg_t (fun _ => ?_) (fun _ => ?_) | refine mg_f (fun _ => ?_) (fun _ => ?_))
  refine MX_call (split_run exS H (by decide)) ?_
  rintro v1 H1 ⟨aW, nW, cW, aS, nS, cS, aP, nP, cP, rfl, hW, hS, hP, hn1, hf1⟩
  rw [ex_W] at hW
  rw [ex_S] at hS
  rw [ex_P] at hP
  obtain rfl : nW = 4 := hW.len
  obtain rfl : nS = 1 := hS.len
  obtain rfl : nP = 0 := hP.len
  have hf2 : ∀ A B, ∀ j, j < H1.n → ((H1.push A).put H1.n B).get j = H1.get j := fun A B j hj => by rw [hget_put_ne (by omega), hget_push_lt hj]
  have hW2 := fun A B => hW.old (hf2 A B)
  have hS2 := fun A B => hS.old (hf2 A B)
  repeat' (first | simp (maxSteps := 1000000) (decide := true) only [go_sem, List.getElem_cons_zero, List.getElem_cons_succ, Nat.reduceAdd, str_empty, eI, eS, eB, Int.toNat_zero, Int.reduceAdd, Int.reduceSub, Int.reduceToNat, Int.reduceMul, decide_false, decide_true, idx_sl hW Try.underlying28 sz9, read_sl (hW2 _ _) ag9 ⟨#[]⟩, idx_sl hS Try.underlying29 sz3, read_sl (hS2 _ _) ag3 0, *] | simp (maxSteps := 1000000) (disch := first | omega | (simp only [Heap.n_push, Heap.n_put] <;> omega) | decide) only [idx_sl hW Try.underlying28 sz9, read_sl (hW2 _ _) ag9 ⟨#[]⟩, idx_sl hS Try.underlying29 sz3, read_sl (hS2 _ _) ag3 0, w64, w32, wu8, Int.toNat_natCast, index_str Try.underlying9, slice_hi Try.underlying9, slice_lo Try.underlying9, slice_lohi Try.underlying9, decide_eq_true, decide_eq_false, hget_push_lt, hget_push_at, hget_put_ne, hget_put_at] | rw [M_draw (n := 33) (by first | with_reducible assumption | (simp only [put_some, put_none, Fr.n_set, *])) (by kernel_rfl)] | refine mcond_dec (fun _ => ?_) (fun _ => ?_) | refine mcond_ndec (fun _ => ?_) (fun _ => ?_) | refine mg_t_dec (fun _ => ?_) (fun _ => ?_) | refine mg_f_dec (fun _ => ?_) (fun _ => ?_) | refine mg_t_ndec (fun _ => ?_) (fun _ => ?_) | refine mg_f_ndec (fun _ => ?_) (fun _ => ?_) | refine mcond_cases (fun _ => ?_) (fun _ => ?_) | refine mg_t (fun _ => ?_) (fun _ => ?_) | refine mg_f (fun _ => ?_) (fun _ => ?_))
  exact ⟨trivial, by omega, fun j hj => (hf2 _ _ j (by omega)).trans (hf1 j hj)⟩
end Go.Ab.Ytnemoodjbekngaa
