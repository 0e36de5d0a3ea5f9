/-
  What the splitter's methods compute: end, begin, sign. Conditions: those of each law.
-/
import Derived.Test.YtnemoodjbekngaaTokLists2
namespace Go.Ab.Ytnemoodjbekngaa
open Go Go.Ab Go.Proofs
set_option maxHeartbeats 4000000
set_option maxRecDepth 100000
set_option linter.unusedSimpArgs false
set_option linter.unusedVariables false
attribute [local go_sem] M_seq M_region M_op M_opg ev_move ev_assign ev_bin ev_un ev_pick ev_index ev_call ev_conv ev_len ev_extract ev_fieldAddr ev_load ev_store ev_nilCheck ev_box ev_slice ev_append ev_indexAddr eval_tmp eval_const eval_func MX_val M_ops_nil M_skip put_some put_none M_block M_loop M_cond get_put_eq get_put_ne Fr.n_set bin_lss bin_eql bin_neq bin_geq bin_leq bin_gtr bin_add bin_sub bin_and bin_or bin_shl bin_seq bin_sne MCond_true MCond_false M_ret M_exit M_blk M_out_blk M_out_other M_out_code M_out_loop yv_some yb_bool yb_undef Bool.not_true Bool.not_false MG_on MG_tf MG_ft MG_none evPick_true evPick_false un_not List.getElem?_cons_succ List.getElem?_cons_zero Option.bind_some M_end mq_ret0 mq_ret1 mq_ret2 mq_ret3 mq_end0 mq_end1 mq_end2 evO_some evH_some nilc_ptr rd1_row wr1_row ov_bool ov_int ov_float ov_string ov_pointer ov_slice ov_map ov_func List.set_cons_zero List.set_cons_succ Nat.zero_add Option.map_some Option.map_none fillA_nil evExtract_tuple List.append_nil List.nil_append List.cons_append Heap.n_push Heap.n_put mq_retc RC_some rdN_row wrN_row takeN_zero takeN_succ setN_nil setN_cons List.drop_zero List.drop_succ_cons List.length_cons List.length_nil ev_max evMM_max ev_buildSlice ev_makeSlice ev_alloc ev_build ptrTo Option.isSome_some evCall_plain evCall_captured ev_clear ev_makeFunc List.map_toArray List.map_cons List.map_nil List.toList_toArray

structure Sp where
  W : List ByteArray
  S : List Int
  P : List Int
  X : List UInt8
  full : Bool
  lines : Int
  stop : Bool
  two : Bool
def SpRep (B : Nat) (H0 H : Heap) (p : Nat) (st : Sp) : Prop :=
  ∃ lab aW nW cW aS nS cS aP nP cP aX nX cX, H.get p = some (.row (.rw 0) [.slice aW nW cW, .slice aS nS cS, .slice aP nP cP, .slice aX nX cX, .bool st.full, .int .i64 st.lines, .bool st.stop, .bool st.two]) ∧
    lab p = 0 ∧ Ol eS lab 1 H aW nW cW st.W ∧ Ol eI lab 2 H aS nS cS st.S ∧ Ol eI lab 3 H aP nP cP st.P ∧ Ol eB lab 4 H aX nX cX st.X ∧ Kp B H0 lab H
theorem SpRep.of {B : Nat} {H0 H : Heap} {p : Nat} {st : Sp} {lab : Nat → Nat} {aW : Option Addr} {nW cW : Nat} {aS : Option Addr} {nS cS : Nat} {aP : Option Addr} {nP cP : Nat} {aX : Option Addr} {nX cX : Nat}
    (h1 : H.get p = some (.row (.rw 0) [.slice aW nW cW, .slice aS nS cS, .slice aP nP cP, .slice aX nX cX, .bool st.full, .int .i64 st.lines, .bool st.stop, .bool st.two])) (h2 : lab p = 0) (h3 : Ol eS lab 1 H aW nW cW st.W) (h4 : Ol eI lab 2 H aS nS cS st.S) (h5 : Ol eI lab 3 H aP nP cP st.P) (h6 : Ol eB lab 4 H aX nX cX st.X) (h7 : Kp B H0 lab H) : SpRep B H0 H p st :=
  ⟨lab, aW, nW, cW, aS, nS, cS, aP, nP, cP, aX, nX, cX, h1, h2, h3, h4, h5, h6, h7⟩
def endM (st : Sp) : Sp := { st with W := if st.X = [] then st.W else st.W ++ [⟨st.X.toArray⟩], X := [], full := false }
theorem end_run (B : Nat) (H0 : Heap) (p : Nat) (st : Sp) (H : Heap) (h : SpRep B H0 H p st) (hb : st.W.length < 2 ^ 30) : CallsA Try.prog noprim 36 #[.pointer (some ⟨p, 0, none⟩)] H fun v H' => v = .tuple #[] ∧ SpRep B H0 H' p (endM st) ∧ H.n ≤ H'.n := by
  obtain ⟨lab, aW, nW, cW, aS, nS, cS, aP, nP, cP, aX, nX, cX, hp, hlp, hW, hS, hP, hX, hK⟩ := h
  have hlt := Heap.lt_of_get hp
  (refine calls_go (fn := Try.f36) (n := 30) (rs := []) rfl Try.func36 rfl rfl rfl rfl ?_; intro fr hn hg; have g0 := hg 0 rfl; clear hg; simp only [List.getElem_cons_zero, List.getElem_cons_succ] at g0)
  repeat' (first | simp (maxSteps := 1000000) (decide := true) only [go_sem, List.getElem_cons_zero, List.getElem_cons_succ, Nat.reduceAdd, str_empty, eI, eS, eB, Int.toNat_zero, Int.reduceAdd, Int.reduceSub, Int.reduceToNat, Int.reduceMul, decide_false, decide_true, conv_bytes hX.sl Try.underlying26 Try.underlying5 Try.underlying9, *] | simp (maxSteps := 1000000) (disch := first | omega | (simp only [Heap.n_push, Heap.n_put] <;> omega) | decide) only [conv_bytes hX.sl Try.underlying26 Try.underlying5 Try.underlying9, w64, w32, wu8, Int.toNat_natCast, index_str Try.underlying9, slice_hi Try.underlying9, slice_lo Try.underlying9, slice_lohi Try.underlying9, decide_eq_true, decide_eq_false, hget_push_lt, hget_push_at, hget_put_ne, hget_put_at] | rw [M_draw (n := 30) (by first | with_reducible assumption | (simp only [put_some, put_none, Fr.n_set, *])) (by kernel_rfl)] | refine mcond_dec (fun _ => ?_) (fun _ => ?_) | refine mcond_ndec (fun _ => ?_) (fun _ => ?_) | refine mg_t_dec (fun _ => ?_) (fun _ => ?_) | refine mg_f_dec (fun _ => ?_) (fun _ => ?_) | refine mg_t_ndec (fun _ => ?_) (fun _ => ?_) | refine mg_f_ndec (fun _ => ?_) (fun _ => ?_) | refine mcond_cases (fun _ => ?_) (fun _ => ?_) | refine mg_t (fun _ => ?_) (fun _ => ?_) | refine mg_f (fun _ => ?_) (fun _ => ?_))
  · rename_i hx
    have hx0 : st.X ≠ [] := by have := hX.len; intro h; rw [h] at this; simp at this; omega
    refine MX_app1 (x := (⟨st.X.toArray⟩ : ByteArray)) ap28 hW (by omega) (by omega) ⟨rfl, rfl⟩ (by first | omega | trivial | (simp only [Heap.n_push, Heap.n_put]; done) | (simp only [Heap.n_push, Heap.n_put]; omega) | (simp only [Heap.n_push, Heap.n_put, *]; omega)) ?_
    intro c' H' hn' hW' hf
    have hp' := (hf p hlt (by omega)).trans hp
    repeat' (first | simp (maxSteps := 1000000) (decide := true) only [go_sem, List.getElem_cons_zero, List.getElem_cons_succ, Nat.reduceAdd, str_empty, eI, eS, eB, Int.toNat_zero, Int.reduceAdd, Int.reduceSub, Int.reduceToNat, Int.reduceMul, decide_false, decide_true, *] | simp (maxSteps := 1000000) (disch := first | omega | (simp only [Heap.n_push, Heap.n_put] <;> omega) | decide) only [w64, w32, wu8, Int.toNat_natCast, index_str Try.underlying9, slice_hi Try.underlying9, slice_lo Try.underlying9, slice_lohi Try.underlying9, decide_eq_true, decide_eq_false, hget_push_lt, hget_push_at, hget_put_ne, hget_put_at] | rw [M_draw (n := 30) (by first | with_reducible assumption | (simp only [put_some, put_none, Fr.n_set, *])) (by kernel_rfl)] | refine mcond_dec (fun _ => ?_) (fun _ => ?_) | refine mcond_ndec (fun _ => ?_) (fun _ => ?_) | refine mg_t_dec (fun _ => ?_) (fun _ => ?_) | refine mg_f_dec (fun _ => ?_) (fun _ => ?_) | refine mg_t_ndec (fun _ => ?_) (fun _ => ?_) | refine mg_f_ndec (fun _ => ?_) (fun _ => ?_) | refine mcond_cases (fun _ => ?_) (fun _ => ?_) | refine mg_t (fun _ => ?_) (fun _ => ?_) | refine mg_f (fun _ => ?_) (fun _ => ?_))
    have hlp' : upd lab (H.n + 1) 1 p = 0 := by rw [upd_ne (by omega)]; exact hlp
    refine ⟨trivial, SpRep.of (hget_put_at (by first | omega | trivial | (simp only [Heap.n_push, Heap.n_put]; done) | (simp only [Heap.n_push, Heap.n_put]; omega) | (simp only [Heap.n_push, Heap.n_put, *]; omega))) hlp' ?_ ?_ ?_ ?_ ?_, (by first | omega | trivial | (simp only [Heap.n_push, Heap.n_put]; done) | (simp only [Heap.n_push, Heap.n_put]; omega) | (simp only [Heap.n_push, Heap.n_put, *]; omega))⟩
    · simp only [endM, if_neg hx0]; exact ((hW'.put (by omega)).put (by omega)).put (by omega)
    · exact (((hS.to (by omega) (by omega) hf).put (by omega)).put (by omega)).put (by omega)
    · exact (((hP.to (by omega) (by omega) hf).put (by omega)).put (by omega)).put (by omega)
    · exact Ol.nil _
    · exact (((hK.to (by omega) (by omega) (by omega) hf).put (by omega)).put (by omega)).put (by omega)
  · rename_i hx
    have hx0 : st.X = [] := by have := hX.len; exact List.eq_nil_of_length_eq_zero (by omega)
    refine ⟨trivial, SpRep.of (hget_put_at (by first | omega | trivial | (simp only [Heap.n_push, Heap.n_put]; done) | (simp only [Heap.n_push, Heap.n_put]; omega) | (simp only [Heap.n_push, Heap.n_put, *]; omega))) hlp ?_ ?_ ?_ ?_ ?_, (by first | omega | trivial | (simp only [Heap.n_push, Heap.n_put]; done) | (simp only [Heap.n_push, Heap.n_put]; omega) | (simp only [Heap.n_push, Heap.n_put, *]; omega))⟩
    · simp only [endM, if_pos hx0]; exact (hW.put (by omega)).put (by omega)
    · exact (hS.put (by omega)).put (by omega)
    · exact (hP.put (by omega)).put (by omega)
    · exact Ol.nil _
    · exact (hK.put (by omega)).put (by omega)

def beginM (st : Sp) : Sp := { st with S := if st.stop || st.two then st.S ++ [(st.W.length : Int)] else st.S, P := if st.two then st.P ++ [(st.W.length : Int)] else st.P, stop := false, two := false, lines := 0 }
theorem begin_run (B : Nat) (H0 : Heap) (p : Nat) (st : Sp) (H : Heap) (h : SpRep B H0 H p st) (hb : st.W.length < 2 ^ 30) (hbS : st.S.length < 2 ^ 30) (hbP : st.P.length < 2 ^ 30) : CallsA Try.prog noprim 45 #[.pointer (some ⟨p, 0, none⟩)] H fun v H' => v = .tuple #[] ∧ SpRep B H0 H' p (beginM st) ∧ H.n ≤ H'.n := by
  obtain ⟨lab, aW, nW, cW, aS, nS, cS, aP, nP, cP, aX, nX, cX, hp, hlp, hW, hS, hP, hX, hK⟩ := h
  have hlt := Heap.lt_of_get hp
  obtain ⟨W, S, P, X, full, lines, stop, two⟩ := st
  have hWn := hW.len
  simp only at hp hb hbS hbP hWn
  subst hWn
  have hl1 : upd lab (H.n + 1) 2 p = 0 := by rw [upd_ne (by omega)]; exact hlp
  (refine calls_go (fn := Try.f45) (n := 56) (rs := []) rfl Try.func45 rfl rfl rfl rfl ?_; intro fr hn hg; have g0 := hg 0 rfl; clear hg; simp only [List.getElem_cons_zero, List.getElem_cons_succ] at g0)
  by_cases htwo : two = true
  · subst htwo
    cases stop
    all_goals
      repeat' (first | simp (maxSteps := 1000000) (decide := true) only [go_sem, List.getElem_cons_zero, List.getElem_cons_succ, Nat.reduceAdd, str_empty, eI, eS, eB, Int.toNat_zero, Int.reduceAdd, Int.reduceSub, Int.reduceToNat, Int.reduceMul, decide_false, decide_true, *] | simp (maxSteps := 1000000) (disch := first | omega | (simp only [Heap.n_push, Heap.n_put] <;> omega) | decide) only [w64, w32, wu8, Int.toNat_natCast, index_str Try.underlying9, slice_hi Try.underlying9, slice_lo Try.underlying9, slice_lohi Try.underlying9, decide_eq_true, decide_eq_false, hget_push_lt, hget_push_at, hget_put_ne, hget_put_at] | rw [M_draw (n := 56) (by first | with_reducible assumption | (simp only [put_some, put_none, Fr.n_set, *])) (by kernel_rfl)] | refine mcond_dec (fun _ => ?_) (fun _ => ?_) | refine mcond_ndec (fun _ => ?_) (fun _ => ?_) | refine mg_t_dec (fun _ => ?_) (fun _ => ?_) | refine mg_f_dec (fun _ => ?_) (fun _ => ?_) | refine mg_t_ndec (fun _ => ?_) (fun _ => ?_) | refine mg_f_ndec (fun _ => ?_) (fun _ => ?_) | refine mcond_cases (fun _ => ?_) (fun _ => ?_) | refine mg_t (fun _ => ?_) (fun _ => ?_) | refine mg_f (fun _ => ?_) (fun _ => ?_))
      refine MX_app1 (x := (W.length : Int)) ap29 hS (by simp only; omega) (by simp only; omega) ⟨rfl, rfl⟩ (by first | omega | trivial | (simp only [Heap.n_push, Heap.n_put]; done) | (simp only [Heap.n_push, Heap.n_put]; omega) | (simp only [Heap.n_push, Heap.n_put, *]; omega)) ?_
      intro c1 H1 hn1 hS1 hf1
      have hp1 := (hf1 p hlt (by omega)).trans hp
      repeat' (first | simp (maxSteps := 1000000) (decide := true) only [go_sem, List.getElem_cons_zero, List.getElem_cons_succ, Nat.reduceAdd, str_empty, eI, eS, eB, Int.toNat_zero, Int.reduceAdd, Int.reduceSub, Int.reduceToNat, Int.reduceMul, decide_false, decide_true, *] | simp (maxSteps := 1000000) (disch := first | omega | (simp only [Heap.n_push, Heap.n_put] <;> omega) | decide) only [w64, w32, wu8, Int.toNat_natCast, index_str Try.underlying9, slice_hi Try.underlying9, slice_lo Try.underlying9, slice_lohi Try.underlying9, decide_eq_true, decide_eq_false, hget_push_lt, hget_push_at, hget_put_ne, hget_put_at] | rw [M_draw (n := 56) (by first | with_reducible assumption | (simp only [put_some, put_none, Fr.n_set, *])) (by kernel_rfl)] | refine mcond_dec (fun _ => ?_) (fun _ => ?_) | refine mcond_ndec (fun _ => ?_) (fun _ => ?_) | refine mg_t_dec (fun _ => ?_) (fun _ => ?_) | refine mg_f_dec (fun _ => ?_) (fun _ => ?_) | refine mg_t_ndec (fun _ => ?_) (fun _ => ?_) | refine mg_f_ndec (fun _ => ?_) (fun _ => ?_) | refine mcond_cases (fun _ => ?_) (fun _ => ?_) | refine mg_t (fun _ => ?_) (fun _ => ?_) | refine mg_f (fun _ => ?_) (fun _ => ?_))
      refine MX_app1 (lab := upd lab (H.n + 1) 2) (x := (W.length : Int)) ap29 ((hP.to (by omega) (by omega) hf1).put (by omega)) (by simp only; omega) (by simp only; omega) ⟨rfl, rfl⟩ (by first | omega | trivial | (simp only [Heap.n_push, Heap.n_put]; done) | (simp only [Heap.n_push, Heap.n_put]; omega) | (simp only [Heap.n_push, Heap.n_put, *]; omega)) ?_
      intro c2 H2 hn2 hP2 hf2
      have hl2 : upd (upd lab (H.n + 1) 2) (H.n + 2 + 1) 3 p = 0 := by rw [upd_ne (by omega)]; exact hl1
      have hp2 := (hf2 p (by omega) (by omega)).trans (hget_put_at (by omega))
      repeat' (first | simp (maxSteps := 1000000) (decide := true) only [go_sem, List.getElem_cons_zero, List.getElem_cons_succ, Nat.reduceAdd, str_empty, eI, eS, eB, Int.toNat_zero, Int.reduceAdd, Int.reduceSub, Int.reduceToNat, Int.reduceMul, decide_false, decide_true, *] | simp (maxSteps := 1000000) (disch := first | omega | (simp only [Heap.n_push, Heap.n_put] <;> omega) | decide) only [w64, w32, wu8, Int.toNat_natCast, index_str Try.underlying9, slice_hi Try.underlying9, slice_lo Try.underlying9, slice_lohi Try.underlying9, decide_eq_true, decide_eq_false, hget_push_lt, hget_push_at, hget_put_ne, hget_put_at] | rw [M_draw (n := 56) (by first | with_reducible assumption | (simp only [put_some, put_none, Fr.n_set, *])) (by kernel_rfl)] | refine mcond_dec (fun _ => ?_) (fun _ => ?_) | refine mcond_ndec (fun _ => ?_) (fun _ => ?_) | refine mg_t_dec (fun _ => ?_) (fun _ => ?_) | refine mg_f_dec (fun _ => ?_) (fun _ => ?_) | refine mg_t_ndec (fun _ => ?_) (fun _ => ?_) | refine mg_f_ndec (fun _ => ?_) (fun _ => ?_) | refine mcond_cases (fun _ => ?_) (fun _ => ?_) | refine mg_t (fun _ => ?_) (fun _ => ?_) | refine mg_f (fun _ => ?_) (fun _ => ?_))
      refine ⟨trivial, SpRep.of (hget_put_at (by first | omega | trivial | (simp only [Heap.n_push, Heap.n_put]; done) | (simp only [Heap.n_push, Heap.n_put]; omega) | (simp only [Heap.n_push, Heap.n_put, *]; omega))) hl2 ?_ ?_ ?_ ?_ ?_, (by first | omega | trivial | (simp only [Heap.n_push, Heap.n_put]; done) | (simp only [Heap.n_push, Heap.n_put]; omega) | (simp only [Heap.n_push, Heap.n_put, *]; omega))⟩
      all_goals repeat (first | refine Ol.put ?_ (by omega) | refine Kp.put ?_ (by omega))
      · exact ((hW.to (by omega) (by omega) hf1).put (by omega)).to (by first | omega | trivial | (simp only [Heap.n_push, Heap.n_put]; done) | (simp only [Heap.n_push, Heap.n_put]; omega) | (simp only [Heap.n_push, Heap.n_put, *]; omega)) (by omega) (fun j hj => hf2 j (by simp only [Heap.n_put] at hj; omega))
      · exact (hS1.put (by omega)).to (by first | omega | trivial | (simp only [Heap.n_push, Heap.n_put]; done) | (simp only [Heap.n_push, Heap.n_put]; omega) | (simp only [Heap.n_push, Heap.n_put, *]; omega)) (by omega) (fun j hj => hf2 j (by simp only [Heap.n_put] at hj; omega))
      · exact hP2
      · exact ((hX.to (by omega) (by omega) hf1).put (by omega)).to (by first | omega | trivial | (simp only [Heap.n_push, Heap.n_put]; done) | (simp only [Heap.n_push, Heap.n_put]; omega) | (simp only [Heap.n_push, Heap.n_put, *]; omega)) (by omega) (fun j hj => hf2 j (by simp only [Heap.n_put] at hj; omega))
      · exact ((hK.to (by omega) (by omega) (by omega) hf1).put (by omega)).to (by first | omega | trivial | (simp only [Heap.n_push, Heap.n_put]; done) | (simp only [Heap.n_push, Heap.n_put]; omega) | (simp only [Heap.n_push, Heap.n_put, *]; omega)) (by omega) (by first | omega | trivial | (simp only [Heap.n_push, Heap.n_put]; done) | (simp only [Heap.n_push, Heap.n_put]; omega) | (simp only [Heap.n_push, Heap.n_put, *]; omega)) (fun j hj => hf2 j (by simp only [Heap.n_put] at hj; omega))
  · have htwo : two = false := by simpa using htwo
    subst htwo
    cases stop
    · repeat' (first | simp (maxSteps := 1000000) (decide := true) only [go_sem, List.getElem_cons_zero, List.getElem_cons_succ, Nat.reduceAdd, str_empty, eI, eS, eB, Int.toNat_zero, Int.reduceAdd, Int.reduceSub, Int.reduceToNat, Int.reduceMul, decide_false, decide_true, *] | simp (maxSteps := 1000000) (disch := first | omega | (simp only [Heap.n_push, Heap.n_put] <;> omega) | decide) only [w64, w32, wu8, Int.toNat_natCast, index_str Try.underlying9, slice_hi Try.underlying9, slice_lo Try.underlying9, slice_lohi Try.underlying9, decide_eq_true, decide_eq_false, hget_push_lt, hget_push_at, hget_put_ne, hget_put_at] | rw [M_draw (n := 56) (by first | with_reducible assumption | (simp only [put_some, put_none, Fr.n_set, *])) (by kernel_rfl)] | refine mcond_dec (fun _ => ?_) (fun _ => ?_) | refine mcond_ndec (fun _ => ?_) (fun _ => ?_) | refine mg_t_dec (fun _ => ?_) (fun _ => ?_) | refine mg_f_dec (fun _ => ?_) (fun _ => ?_) | refine mg_t_ndec (fun _ => ?_) (fun _ => ?_) | refine mg_f_ndec (fun _ => ?_) (fun _ => ?_) | refine mcond_cases (fun _ => ?_) (fun _ => ?_) | refine mg_t (fun _ => ?_) (fun _ => ?_) | refine mg_f (fun _ => ?_) (fun _ => ?_))
      refine ⟨trivial, SpRep.of (hget_put_at (by first | omega | trivial | (simp only [Heap.n_push, Heap.n_put]; done) | (simp only [Heap.n_push, Heap.n_put]; omega) | (simp only [Heap.n_push, Heap.n_put, *]; omega))) hlp ?_ ?_ ?_ ?_ ?_, (by first | omega | trivial | (simp only [Heap.n_push, Heap.n_put]; done) | (simp only [Heap.n_push, Heap.n_put]; omega) | (simp only [Heap.n_push, Heap.n_put, *]; omega))⟩
      all_goals repeat (first | refine Ol.put ?_ (by omega) | refine Kp.put ?_ (by omega))
      · exact hW
      · exact hS
      · exact hP
      · exact hX
      · exact hK
    · repeat' (first | simp (maxSteps := 1000000) (decide := true) only [go_sem, List.getElem_cons_zero, List.getElem_cons_succ, Nat.reduceAdd, str_empty, eI, eS, eB, Int.toNat_zero, Int.reduceAdd, Int.reduceSub, Int.reduceToNat, Int.reduceMul, decide_false, decide_true, *] | simp (maxSteps := 1000000) (disch := first | omega | (simp only [Heap.n_push, Heap.n_put] <;> omega) | decide) only [w64, w32, wu8, Int.toNat_natCast, index_str Try.underlying9, slice_hi Try.underlying9, slice_lo Try.underlying9, slice_lohi Try.underlying9, decide_eq_true, decide_eq_false, hget_push_lt, hget_push_at, hget_put_ne, hget_put_at] | rw [M_draw (n := 56) (by first | with_reducible assumption | (simp only [put_some, put_none, Fr.n_set, *])) (by kernel_rfl)] | refine mcond_dec (fun _ => ?_) (fun _ => ?_) | refine mcond_ndec (fun _ => ?_) (fun _ => ?_) | refine mg_t_dec (fun _ => ?_) (fun _ => ?_) | refine mg_f_dec (fun _ => ?_) (fun _ => ?_) | refine mg_t_ndec (fun _ => ?_) (fun _ => ?_) | refine mg_f_ndec (fun _ => ?_) (fun _ => ?_) | refine mcond_cases (fun _ => ?_) (fun _ => ?_) | refine mg_t (fun _ => ?_) (fun _ => ?_) | refine mg_f (fun _ => ?_) (fun _ => ?_))
      refine MX_app1 (x := (W.length : Int)) ap29 hS (by simp only; omega) (by simp only; omega) ⟨rfl, rfl⟩ (by first | omega | trivial | (simp only [Heap.n_push, Heap.n_put]; done) | (simp only [Heap.n_push, Heap.n_put]; omega) | (simp only [Heap.n_push, Heap.n_put, *]; omega)) ?_
      intro c1 H1 hn1 hS1 hf1
      have hp1 := (hf1 p hlt (by omega)).trans hp
      repeat' (first | simp (maxSteps := 1000000) (decide := true) only [go_sem, List.getElem_cons_zero, List.getElem_cons_succ, Nat.reduceAdd, str_empty, eI, eS, eB, Int.toNat_zero, Int.reduceAdd, Int.reduceSub, Int.reduceToNat, Int.reduceMul, decide_false, decide_true, *] | simp (maxSteps := 1000000) (disch := first | omega | (simp only [Heap.n_push, Heap.n_put] <;> omega) | decide) only [w64, w32, wu8, Int.toNat_natCast, index_str Try.underlying9, slice_hi Try.underlying9, slice_lo Try.underlying9, slice_lohi Try.underlying9, decide_eq_true, decide_eq_false, hget_push_lt, hget_push_at, hget_put_ne, hget_put_at] | rw [M_draw (n := 56) (by first | with_reducible assumption | (simp only [put_some, put_none, Fr.n_set, *])) (by kernel_rfl)] | refine mcond_dec (fun _ => ?_) (fun _ => ?_) | refine mcond_ndec (fun _ => ?_) (fun _ => ?_) | refine mg_t_dec (fun _ => ?_) (fun _ => ?_) | refine mg_f_dec (fun _ => ?_) (fun _ => ?_) | refine mg_t_ndec (fun _ => ?_) (fun _ => ?_) | refine mg_f_ndec (fun _ => ?_) (fun _ => ?_) | refine mcond_cases (fun _ => ?_) (fun _ => ?_) | refine mg_t (fun _ => ?_) (fun _ => ?_) | refine mg_f (fun _ => ?_) (fun _ => ?_))
      refine ⟨trivial, SpRep.of (hget_put_at (by first | omega | trivial | (simp only [Heap.n_push, Heap.n_put]; done) | (simp only [Heap.n_push, Heap.n_put]; omega) | (simp only [Heap.n_push, Heap.n_put, *]; omega))) hl1 ?_ ?_ ?_ ?_ ?_, (by first | omega | trivial | (simp only [Heap.n_push, Heap.n_put]; done) | (simp only [Heap.n_push, Heap.n_put]; omega) | (simp only [Heap.n_push, Heap.n_put, *]; omega))⟩
      all_goals repeat (first | refine Ol.put ?_ (by omega) | refine Kp.put ?_ (by omega))
      · exact hW.to (by omega) (by omega) hf1
      · exact hS1
      · exact hP.to (by omega) (by omega) hf1
      · exact hX.to (by omega) (by omega) hf1
      · exact hK.to (by omega) (by omega) (by omega) hf1

def signM (st : Sp) (r : Int) (s : ByteArray) : Sp :=
  if letterM r = true then
    let st1 := if st.X = [] then beginM st else st
    if (st1.full || decide ((80 : Int) < st1.X.length + s.size)) = true then { st1 with full := true } else { st1 with X := st1.X ++ s.data.toList, full := false }
  else
    let st1 := endM st
    if r = 46 ∨ r = 33 ∨ r = 63 then { st1 with stop := true, lines := 0 }
    else if r = 10 then { st1 with lines := st1.lines + 1, two := st1.two || decide (st1.lines + 1 > 1) }
    else if r = 32 ∨ r = 9 ∨ r = 13 then st1
    else { st1 with lines := 0 }
/-- The second half of sign: the sign goes in. -/
theorem sign_run (B : Nat) (H0 : Heap) (p : Nat) (st : Sp) (r : Int) (s : ByteArray) (H : Heap) (h : SpRep B H0 H p st) (hb : st.W.length < 2 ^ 30) (hbS : st.S.length < 2 ^ 30) (hbP : st.P.length < 2 ^ 30) (hbX : st.X.length < 2 ^ 30) (hbs : s.size < 2 ^ 30) (hs0 : 0 < s.size) (hl0 : 0 ≤ st.lines) (hl1 : st.lines < 2 ^ 30) :
    CallsA Try.prog noprim 35 #[.pointer (some ⟨p, 0, none⟩), .int .i32 r, .string s] H fun v H' => v = .tuple #[] ∧ SpRep B H0 H' p (signM st r s) ∧ H.n ≤ H'.n := by
  (refine calls_go (fn := Try.f35) (n := 91) (rs := []) rfl Try.func35 rfl rfl rfl rfl ?_; intro fr hn hg; have g0 := hg 0 rfl; have g1 := hg 1 rfl; have g2 := hg 2 rfl; clear hg; simp only [List.getElem_cons_zero, List.getElem_cons_succ] at g0 g1 g2)
  repeat' (first | simp (maxSteps := 1000000) (decide := true) only [go_sem, List.getElem_cons_zero, List.getElem_cons_succ, Nat.reduceAdd, str_empty, eI, eS, eB, Int.toNat_zero, Int.reduceAdd, Int.reduceSub, Int.reduceToNat, Int.reduceMul, decide_false, decide_true, *] | simp (maxSteps := 1000000) (disch := first | omega | (simp only [Heap.n_push, Heap.n_put] <;> omega) | decide) only [w64, w32, wu8, Int.toNat_natCast, index_str Try.underlying9, slice_hi Try.underlying9, slice_lo Try.underlying9, slice_lohi Try.underlying9, decide_eq_true, decide_eq_false, hget_push_lt, hget_push_at, hget_put_ne, hget_put_at] | rw [M_draw (n := 91) (by first | with_reducible assumption | (simp only [put_some, put_none, Fr.n_set, *])) (by kernel_rfl)] | refine mcond_dec (fun _ => ?_) (fun _ => ?_) | refine mcond_ndec (fun _ => ?_) (fun _ => ?_) | refine mg_t_dec (fun _ => ?_) (fun _ => ?_) | refine mg_f_dec (fun _ => ?_) (fun _ => ?_) | refine mg_t_ndec (fun _ => ?_) (fun _ => ?_) | refine mg_f_ndec (fun _ => ?_) (fun _ => ?_) | refine mcond_cases (fun _ => ?_) (fun _ => ?_) | refine mg_t (fun _ => ?_) (fun _ => ?_) | refine mg_f (fun _ => ?_) (fun _ => ?_))
  refine MX_call (letter_run r H) ?_
  rintro v H1 ⟨rfl, hH⟩
  rw [hH]
  clear hH H1
  by_cases hlet : letterM r = true
  · rw [hlet]
    have hse : (s.size : Int) ≤ 1073741824 := by omega
    by_cases hX0 : st.X = []
    · have h0 := h
      obtain ⟨lab, aW, nW, cW, aS, nS, cS, aP, nP, cP, aX, nX, cX, hp, hlp, hW, hS, hP, hX, hK⟩ := h
      have hn0 : nX = 0 := by rw [hX.len, hX0]; rfl
      subst hn0
      repeat' (first | simp (maxSteps := 1000000) (decide := true) only [go_sem, List.getElem_cons_zero, List.getElem_cons_succ, Nat.reduceAdd, str_empty, eI, eS, eB, Int.toNat_zero, Int.reduceAdd, Int.reduceSub, Int.reduceToNat, Int.reduceMul, decide_false, decide_true, *] | simp (maxSteps := 1000000) (disch := first | omega | (simp only [Heap.n_push, Heap.n_put] <;> omega) | decide) only [w64, w32, wu8, Int.toNat_natCast, index_str Try.underlying9, slice_hi Try.underlying9, slice_lo Try.underlying9, slice_lohi Try.underlying9, decide_eq_true, decide_eq_false, hget_push_lt, hget_push_at, hget_put_ne, hget_put_at] | rw [M_draw (n := 91) (by first | with_reducible assumption | (simp only [put_some, put_none, Fr.n_set, *])) (by kernel_rfl)] | refine mcond_dec (fun _ => ?_) (fun _ => ?_) | refine mcond_ndec (fun _ => ?_) (fun _ => ?_) | refine mg_t_dec (fun _ => ?_) (fun _ => ?_) | refine mg_f_dec (fun _ => ?_) (fun _ => ?_) | refine mg_t_ndec (fun _ => ?_) (fun _ => ?_) | refine mg_f_ndec (fun _ => ?_) (fun _ => ?_) | refine mcond_cases (fun _ => ?_) (fun _ => ?_) | refine mg_t (fun _ => ?_) (fun _ => ?_) | refine mg_f (fun _ => ?_) (fun _ => ?_))
      refine MX_call (begin_run B H0 p st H h0 hb hbS hbP) ?_
      rintro v H1 ⟨rfl, h1, hle⟩
      have e : signM st r s = (if (st.full || decide ((80 : Int) < st.X.length + s.size)) = true then { beginM st with full := true } else { beginM st with X := st.X ++ s.data.toList, full := false }) := by
        simp [signM, hlet, hX0, beginM]
      rw [e]
      clear e hp hlp hW hS hP hX h0
      have hbX1 : (beginM st).X.length < 2 ^ 30 := hbX
      have hbf : (beginM st).full = st.full := rfl
      have hbx : (beginM st).X = st.X := rfl
      rw [← hbf, ← hbx]
      clear hbf hbx
      generalize beginM st = st1 at *
      obtain ⟨lab, aW, nW, cW, aS, nS, cS, aP, nP, cP, aX, nX, cX, hp, hlp, hW, hS, hP, hX, hK⟩ := h1
      have hlt := Heap.lt_of_get hp
      have hXn := hX.len
      obtain ⟨W, S, P, X, full, lines, stop, two⟩ := st1
      simp only at hp hXn hbX1
      try simp only at hX1
      subst hXn
      cases full
      · repeat' (first | simp (maxSteps := 1000000) (decide := true) only [go_sem, List.getElem_cons_zero, List.getElem_cons_succ, Nat.reduceAdd, str_empty, eI, eS, eB, Int.toNat_zero, Int.reduceAdd, Int.reduceSub, Int.reduceToNat, Int.reduceMul, decide_false, decide_true, *] | simp (maxSteps := 1000000) (disch := first | omega | (simp only [Heap.n_push, Heap.n_put] <;> omega) | decide) only [w64, w32, wu8, Int.toNat_natCast, index_str Try.underlying9, slice_hi Try.underlying9, slice_lo Try.underlying9, slice_lohi Try.underlying9, decide_eq_true, decide_eq_false, hget_push_lt, hget_push_at, hget_put_ne, hget_put_at] | rw [M_draw (n := 91) (by first | with_reducible assumption | (simp only [put_some, put_none, Fr.n_set, *])) (by kernel_rfl)] | refine mcond_dec (fun _ => ?_) (fun _ => ?_) | refine mcond_ndec (fun _ => ?_) (fun _ => ?_) | refine mg_t_dec (fun _ => ?_) (fun _ => ?_) | refine mg_f_dec (fun _ => ?_) (fun _ => ?_) | refine mg_t_ndec (fun _ => ?_) (fun _ => ?_) | refine mg_f_ndec (fun _ => ?_) (fun _ => ?_) | refine mcond_cases (fun _ => ?_) (fun _ => ?_) | refine mg_t (fun _ => ?_) (fun _ => ?_) | refine mg_f (fun _ => ?_) (fun _ => ?_))
        rotate_left
        · (refine ⟨trivial, ?_, (by first | omega | trivial | (simp only [Heap.n_push, Heap.n_put]; done) | (simp only [Heap.n_push, Heap.n_put]; omega) | (simp only [Heap.n_push, Heap.n_put, *]; omega))⟩; (try simp only [ite_true, ite_false, Bool.true_or, Bool.false_or, or_true, true_or, or_false, false_or]); first | exact SpRep.of hp hlp hW hS hP hX hK | (refine SpRep.of (hget_put_at (by first | omega | trivial | (simp only [Heap.n_push, Heap.n_put]; done) | (simp only [Heap.n_push, Heap.n_put]; omega) | (simp only [Heap.n_push, Heap.n_put, *]; omega))) hlp ?_ ?_ ?_ ?_ ?_ <;> (repeat (first | refine Ol.put ?_ (by omega) | refine Kp.put ?_ (by omega))) <;> with_reducible assumption))
        · have hsl : s.data.toList.length = s.size := rfl
          refine MX_appN (ys := s.data.toList) (aps26) (by rw [src_str, byteCells_eq]; rfl) hs0 (hX.put (by omega)) (by simp only; omega) (by simp only; omega) (fun x => ⟨rfl, rfl⟩) ?_
          simp only [Heap.n_put]
          intro c2 H2 hn2 hX2 hf2
          have hl2 : upd lab H1.n 4 p = 0 := by rw [upd_ne (by omega)]; exact hlp
          have hp2 := (hf2 p (by omega) (by omega)).trans (hget_put_at (by omega))
          repeat' (first | simp (maxSteps := 1000000) (decide := true) only [go_sem, List.getElem_cons_zero, List.getElem_cons_succ, Nat.reduceAdd, str_empty, eI, eS, eB, Int.toNat_zero, Int.reduceAdd, Int.reduceSub, Int.reduceToNat, Int.reduceMul, decide_false, decide_true, *] | simp (maxSteps := 1000000) (disch := first | omega | (simp only [Heap.n_push, Heap.n_put] <;> omega) | decide) only [w64, w32, wu8, Int.toNat_natCast, index_str Try.underlying9, slice_hi Try.underlying9, slice_lo Try.underlying9, slice_lohi Try.underlying9, decide_eq_true, decide_eq_false, hget_push_lt, hget_push_at, hget_put_ne, hget_put_at] | rw [M_draw (n := 91) (by first | with_reducible assumption | (simp only [put_some, put_none, Fr.n_set, *])) (by kernel_rfl)] | refine mcond_dec (fun _ => ?_) (fun _ => ?_) | refine mcond_ndec (fun _ => ?_) (fun _ => ?_) | refine mg_t_dec (fun _ => ?_) (fun _ => ?_) | refine mg_f_dec (fun _ => ?_) (fun _ => ?_) | refine mg_t_ndec (fun _ => ?_) (fun _ => ?_) | refine mg_f_ndec (fun _ => ?_) (fun _ => ?_) | refine mcond_cases (fun _ => ?_) (fun _ => ?_) | refine mg_t (fun _ => ?_) (fun _ => ?_) | refine mg_f (fun _ => ?_) (fun _ => ?_))
          refine ⟨trivial, ?_, (by first | omega | trivial | (simp only [Heap.n_push, Heap.n_put]; done) | (simp only [Heap.n_push, Heap.n_put]; omega) | (simp only [Heap.n_push, Heap.n_put, *]; omega))⟩
          try simp only [ite_true, ite_false, Bool.true_or, Bool.false_or, or_true, true_or, or_false, false_or]
          refine SpRep.of (hget_put_at (by first | omega | trivial | (simp only [Heap.n_push, Heap.n_put]; done) | (simp only [Heap.n_push, Heap.n_put]; omega) | (simp only [Heap.n_push, Heap.n_put, *]; omega))) hl2 ?_ ?_ ?_ ?_ ?_
          all_goals repeat (first | refine Ol.put ?_ (by omega) | refine Kp.put ?_ (by omega))
          · exact (hW.put (by omega)).to (by first | omega | trivial | (simp only [Heap.n_push, Heap.n_put]; done) | (simp only [Heap.n_push, Heap.n_put]; omega) | (simp only [Heap.n_push, Heap.n_put, *]; omega)) (by omega) (fun j hj => hf2 j (by simp only [Heap.n_put] at hj; omega))
          · exact (hS.put (by omega)).to (by first | omega | trivial | (simp only [Heap.n_push, Heap.n_put]; done) | (simp only [Heap.n_push, Heap.n_put]; omega) | (simp only [Heap.n_push, Heap.n_put, *]; omega)) (by omega) (fun j hj => hf2 j (by simp only [Heap.n_put] at hj; omega))
          · exact (hP.put (by omega)).to (by first | omega | trivial | (simp only [Heap.n_push, Heap.n_put]; done) | (simp only [Heap.n_push, Heap.n_put]; omega) | (simp only [Heap.n_push, Heap.n_put, *]; omega)) (by omega) (fun j hj => hf2 j (by simp only [Heap.n_put] at hj; omega))
          · exact hX2
          · exact (hK.put (by omega)).to (by first | omega | trivial | (simp only [Heap.n_push, Heap.n_put]; done) | (simp only [Heap.n_push, Heap.n_put]; omega) | (simp only [Heap.n_push, Heap.n_put, *]; omega)) (by omega) (by first | omega | trivial | (simp only [Heap.n_push, Heap.n_put]; done) | (simp only [Heap.n_push, Heap.n_put]; omega) | (simp only [Heap.n_push, Heap.n_put, *]; omega)) (fun j hj => hf2 j (by simp only [Heap.n_put] at hj; omega))
      · repeat' (first | simp (maxSteps := 1000000) (decide := true) only [go_sem, List.getElem_cons_zero, List.getElem_cons_succ, Nat.reduceAdd, str_empty, eI, eS, eB, Int.toNat_zero, Int.reduceAdd, Int.reduceSub, Int.reduceToNat, Int.reduceMul, decide_false, decide_true, *] | simp (maxSteps := 1000000) (disch := first | omega | (simp only [Heap.n_push, Heap.n_put] <;> omega) | decide) only [w64, w32, wu8, Int.toNat_natCast, index_str Try.underlying9, slice_hi Try.underlying9, slice_lo Try.underlying9, slice_lohi Try.underlying9, decide_eq_true, decide_eq_false, hget_push_lt, hget_push_at, hget_put_ne, hget_put_at] | rw [M_draw (n := 91) (by first | with_reducible assumption | (simp only [put_some, put_none, Fr.n_set, *])) (by kernel_rfl)] | refine mcond_dec (fun _ => ?_) (fun _ => ?_) | refine mcond_ndec (fun _ => ?_) (fun _ => ?_) | refine mg_t_dec (fun _ => ?_) (fun _ => ?_) | refine mg_f_dec (fun _ => ?_) (fun _ => ?_) | refine mg_t_ndec (fun _ => ?_) (fun _ => ?_) | refine mg_f_ndec (fun _ => ?_) (fun _ => ?_) | refine mcond_cases (fun _ => ?_) (fun _ => ?_) | refine mg_t (fun _ => ?_) (fun _ => ?_) | refine mg_f (fun _ => ?_) (fun _ => ?_))
        all_goals (refine ⟨trivial, ?_, (by first | omega | trivial | (simp only [Heap.n_push, Heap.n_put]; done) | (simp only [Heap.n_push, Heap.n_put]; omega) | (simp only [Heap.n_push, Heap.n_put, *]; omega))⟩; (try simp only [ite_true, ite_false, Bool.true_or, Bool.false_or, or_true, true_or, or_false, false_or]); first | exact SpRep.of hp hlp hW hS hP hX hK | (refine SpRep.of (hget_put_at (by first | omega | trivial | (simp only [Heap.n_push, Heap.n_put]; done) | (simp only [Heap.n_push, Heap.n_put]; omega) | (simp only [Heap.n_push, Heap.n_put, *]; omega))) hlp ?_ ?_ ?_ ?_ ?_ <;> (repeat (first | refine Ol.put ?_ (by omega) | refine Kp.put ?_ (by omega))) <;> with_reducible assumption))
    · have e : signM st r s = (if (st.full || decide ((80 : Int) < st.X.length + s.size)) = true then { st with full := true } else { st with X := st.X ++ s.data.toList, full := false }) := by
        simp [signM, hlet, hX0]
      rw [e]
      clear e
      have hX1 : (0 : Int) < st.X.length := by have := List.length_pos_iff.2 hX0; omega
      have h1 := h
      have hle := Nat.le_refl H.n
      have hbX1 := hbX
      generalize st = st1 at *
      generalize H = H1 at *
      obtain ⟨lab, aW, nW, cW, aS, nS, cS, aP, nP, cP, aX, nX, cX, hp, hlp, hW, hS, hP, hX, hK⟩ := h1
      have hlt := Heap.lt_of_get hp
      have hXn := hX.len
      obtain ⟨W, S, P, X, full, lines, stop, two⟩ := st1
      simp only at hp hXn hbX1
      try simp only at hX1
      subst hXn
      cases full
      · repeat' (first | simp (maxSteps := 1000000) (decide := true) only [go_sem, List.getElem_cons_zero, List.getElem_cons_succ, Nat.reduceAdd, str_empty, eI, eS, eB, Int.toNat_zero, Int.reduceAdd, Int.reduceSub, Int.reduceToNat, Int.reduceMul, decide_false, decide_true, *] | simp (maxSteps := 1000000) (disch := first | omega | (simp only [Heap.n_push, Heap.n_put] <;> omega) | decide) only [w64, w32, wu8, Int.toNat_natCast, index_str Try.underlying9, slice_hi Try.underlying9, slice_lo Try.underlying9, slice_lohi Try.underlying9, decide_eq_true, decide_eq_false, hget_push_lt, hget_push_at, hget_put_ne, hget_put_at] | rw [M_draw (n := 91) (by first | with_reducible assumption | (simp only [put_some, put_none, Fr.n_set, *])) (by kernel_rfl)] | refine mcond_dec (fun _ => ?_) (fun _ => ?_) | refine mcond_ndec (fun _ => ?_) (fun _ => ?_) | refine mg_t_dec (fun _ => ?_) (fun _ => ?_) | refine mg_f_dec (fun _ => ?_) (fun _ => ?_) | refine mg_t_ndec (fun _ => ?_) (fun _ => ?_) | refine mg_f_ndec (fun _ => ?_) (fun _ => ?_) | refine mcond_cases (fun _ => ?_) (fun _ => ?_) | refine mg_t (fun _ => ?_) (fun _ => ?_) | refine mg_f (fun _ => ?_) (fun _ => ?_))
        rotate_left
        · (refine ⟨trivial, ?_, (by first | omega | trivial | (simp only [Heap.n_push, Heap.n_put]; done) | (simp only [Heap.n_push, Heap.n_put]; omega) | (simp only [Heap.n_push, Heap.n_put, *]; omega))⟩; (try simp only [ite_true, ite_false, Bool.true_or, Bool.false_or, or_true, true_or, or_false, false_or]); first | exact SpRep.of hp hlp hW hS hP hX hK | (refine SpRep.of (hget_put_at (by first | omega | trivial | (simp only [Heap.n_push, Heap.n_put]; done) | (simp only [Heap.n_push, Heap.n_put]; omega) | (simp only [Heap.n_push, Heap.n_put, *]; omega))) hlp ?_ ?_ ?_ ?_ ?_ <;> (repeat (first | refine Ol.put ?_ (by omega) | refine Kp.put ?_ (by omega))) <;> with_reducible assumption))
        · have hsl : s.data.toList.length = s.size := rfl
          refine MX_appN (ys := s.data.toList) (aps26) (by rw [src_str, byteCells_eq]; rfl) hs0 (hX.put (by omega)) (by simp only; omega) (by simp only; omega) (fun x => ⟨rfl, rfl⟩) ?_
          simp only [Heap.n_put]
          intro c2 H2 hn2 hX2 hf2
          have hl2 : upd lab H1.n 4 p = 0 := by rw [upd_ne (by omega)]; exact hlp
          have hp2 := (hf2 p (by omega) (by omega)).trans (hget_put_at (by omega))
          repeat' (first | simp (maxSteps := 1000000) (decide := true) only [go_sem, List.getElem_cons_zero, List.getElem_cons_succ, Nat.reduceAdd, str_empty, eI, eS, eB, Int.toNat_zero, Int.reduceAdd, Int.reduceSub, Int.reduceToNat, Int.reduceMul, decide_false, decide_true, *] | simp (maxSteps := 1000000) (disch := first | omega | (simp only [Heap.n_push, Heap.n_put] <;> omega) | decide) only [w64, w32, wu8, Int.toNat_natCast, index_str Try.underlying9, slice_hi Try.underlying9, slice_lo Try.underlying9, slice_lohi Try.underlying9, decide_eq_true, decide_eq_false, hget_push_lt, hget_push_at, hget_put_ne, hget_put_at] | rw [M_draw (n := 91) (by first | with_reducible assumption | (simp only [put_some, put_none, Fr.n_set, *])) (by kernel_rfl)] | refine mcond_dec (fun _ => ?_) (fun _ => ?_) | refine mcond_ndec (fun _ => ?_) (fun _ => ?_) | refine mg_t_dec (fun _ => ?_) (fun _ => ?_) | refine mg_f_dec (fun _ => ?_) (fun _ => ?_) | refine mg_t_ndec (fun _ => ?_) (fun _ => ?_) | refine mg_f_ndec (fun _ => ?_) (fun _ => ?_) | refine mcond_cases (fun _ => ?_) (fun _ => ?_) | refine mg_t (fun _ => ?_) (fun _ => ?_) | refine mg_f (fun _ => ?_) (fun _ => ?_))
          refine ⟨trivial, ?_, (by first | omega | trivial | (simp only [Heap.n_push, Heap.n_put]; done) | (simp only [Heap.n_push, Heap.n_put]; omega) | (simp only [Heap.n_push, Heap.n_put, *]; omega))⟩
          try simp only [ite_true, ite_false, Bool.true_or, Bool.false_or, or_true, true_or, or_false, false_or]
          refine SpRep.of (hget_put_at (by first | omega | trivial | (simp only [Heap.n_push, Heap.n_put]; done) | (simp only [Heap.n_push, Heap.n_put]; omega) | (simp only [Heap.n_push, Heap.n_put, *]; omega))) hl2 ?_ ?_ ?_ ?_ ?_
          all_goals repeat (first | refine Ol.put ?_ (by omega) | refine Kp.put ?_ (by omega))
          · exact (hW.put (by omega)).to (by first | omega | trivial | (simp only [Heap.n_push, Heap.n_put]; done) | (simp only [Heap.n_push, Heap.n_put]; omega) | (simp only [Heap.n_push, Heap.n_put, *]; omega)) (by omega) (fun j hj => hf2 j (by simp only [Heap.n_put] at hj; omega))
          · exact (hS.put (by omega)).to (by first | omega | trivial | (simp only [Heap.n_push, Heap.n_put]; done) | (simp only [Heap.n_push, Heap.n_put]; omega) | (simp only [Heap.n_push, Heap.n_put, *]; omega)) (by omega) (fun j hj => hf2 j (by simp only [Heap.n_put] at hj; omega))
          · exact (hP.put (by omega)).to (by first | omega | trivial | (simp only [Heap.n_push, Heap.n_put]; done) | (simp only [Heap.n_push, Heap.n_put]; omega) | (simp only [Heap.n_push, Heap.n_put, *]; omega)) (by omega) (fun j hj => hf2 j (by simp only [Heap.n_put] at hj; omega))
          · exact hX2
          · exact (hK.put (by omega)).to (by first | omega | trivial | (simp only [Heap.n_push, Heap.n_put]; done) | (simp only [Heap.n_push, Heap.n_put]; omega) | (simp only [Heap.n_push, Heap.n_put, *]; omega)) (by omega) (by first | omega | trivial | (simp only [Heap.n_push, Heap.n_put]; done) | (simp only [Heap.n_push, Heap.n_put]; omega) | (simp only [Heap.n_push, Heap.n_put, *]; omega)) (fun j hj => hf2 j (by simp only [Heap.n_put] at hj; omega))
      · repeat' (first | simp (maxSteps := 1000000) (decide := true) only [go_sem, List.getElem_cons_zero, List.getElem_cons_succ, Nat.reduceAdd, str_empty, eI, eS, eB, Int.toNat_zero, Int.reduceAdd, Int.reduceSub, Int.reduceToNat, Int.reduceMul, decide_false, decide_true, *] | simp (maxSteps := 1000000) (disch := first | omega | (simp only [Heap.n_push, Heap.n_put] <;> omega) | decide) only [w64, w32, wu8, Int.toNat_natCast, index_str Try.underlying9, slice_hi Try.underlying9, slice_lo Try.underlying9, slice_lohi Try.underlying9, decide_eq_true, decide_eq_false, hget_push_lt, hget_push_at, hget_put_ne, hget_put_at] | rw [M_draw (n := 91) (by first | with_reducible assumption | (simp only [put_some, put_none, Fr.n_set, *])) (by kernel_rfl)] | refine mcond_dec (fun _ => ?_) (fun _ => ?_) | refine mcond_ndec (fun _ => ?_) (fun _ => ?_) | refine mg_t_dec (fun _ => ?_) (fun _ => ?_) | refine mg_f_dec (fun _ => ?_) (fun _ => ?_) | refine mg_t_ndec (fun _ => ?_) (fun _ => ?_) | refine mg_f_ndec (fun _ => ?_) (fun _ => ?_) | refine mcond_cases (fun _ => ?_) (fun _ => ?_) | refine mg_t (fun _ => ?_) (fun _ => ?_) | refine mg_f (fun _ => ?_) (fun _ => ?_))
        all_goals (refine ⟨trivial, ?_, (by first | omega | trivial | (simp only [Heap.n_push, Heap.n_put]; done) | (simp only [Heap.n_push, Heap.n_put]; omega) | (simp only [Heap.n_push, Heap.n_put, *]; omega))⟩; (try simp only [ite_true, ite_false, Bool.true_or, Bool.false_or, or_true, true_or, or_false, false_or]); first | exact SpRep.of hp hlp hW hS hP hX hK | (refine SpRep.of (hget_put_at (by first | omega | trivial | (simp only [Heap.n_push, Heap.n_put]; done) | (simp only [Heap.n_push, Heap.n_put]; omega) | (simp only [Heap.n_push, Heap.n_put, *]; omega))) hlp ?_ ?_ ?_ ?_ ?_ <;> (repeat (first | refine Ol.put ?_ (by omega) | refine Kp.put ?_ (by omega))) <;> with_reducible assumption))
  · have hlet : letterM r = false := by simpa using hlet
    rw [hlet]
    repeat' (first | simp (maxSteps := 1000000) (decide := true) only [go_sem, List.getElem_cons_zero, List.getElem_cons_succ, Nat.reduceAdd, str_empty, eI, eS, eB, Int.toNat_zero, Int.reduceAdd, Int.reduceSub, Int.reduceToNat, Int.reduceMul, decide_false, decide_true, *] | simp (maxSteps := 1000000) (disch := first | omega | (simp only [Heap.n_push, Heap.n_put] <;> omega) | decide) only [w64, w32, wu8, Int.toNat_natCast, index_str Try.underlying9, slice_hi Try.underlying9, slice_lo Try.underlying9, slice_lohi Try.underlying9, decide_eq_true, decide_eq_false, hget_push_lt, hget_push_at, hget_put_ne, hget_put_at] | rw [M_draw (n := 91) (by first | with_reducible assumption | (simp only [put_some, put_none, Fr.n_set, *])) (by kernel_rfl)] | refine mcond_dec (fun _ => ?_) (fun _ => ?_) | refine mcond_ndec (fun _ => ?_) (fun _ => ?_) | refine mg_t_dec (fun _ => ?_) (fun _ => ?_) | refine mg_f_dec (fun _ => ?_) (fun _ => ?_) | refine mg_t_ndec (fun _ => ?_) (fun _ => ?_) | refine mg_f_ndec (fun _ => ?_) (fun _ => ?_) | refine mcond_cases (fun _ => ?_) (fun _ => ?_) | refine mg_t (fun _ => ?_) (fun _ => ?_) | refine mg_f (fun _ => ?_) (fun _ => ?_))
    refine MX_call (end_run B H0 p st H h hb) ?_
    rintro v H1 ⟨rfl, h1, hle⟩
    have e : signM st r s = (if r = 46 ∨ r = 33 ∨ r = 63 then { endM st with stop := true, lines := 0 } else if r = 10 then { endM st with lines := st.lines + 1, two := st.two || decide (st.lines + 1 > 1) } else if r = 32 ∨ r = 9 ∨ r = 13 then endM st else { endM st with lines := 0 }) := by
      simp [signM, hlet, endM]
    rw [e]
    have hbf : (endM st).two = st.two := rfl
    have hbx : (endM st).lines = st.lines := rfl
    rw [← hbf, ← hbx]
    rw [← hbx] at hl0 hl1
    clear hbf hbx e
    generalize endM st = st1 at *
    obtain ⟨lab, aW, nW, cW, aS, nS, cS, aP, nP, cP, aX, nX, cX, hp, hlp, hW, hS, hP, hX, hK⟩ := h1
    have hlt := Heap.lt_of_get hp
    obtain ⟨W, S, P, X, full, lines, stop, two⟩ := st1
    simp only at hp hl0 hl1
    cases two
    all_goals
      repeat' (first | simp (maxSteps := 1000000) (decide := true) only [go_sem, List.getElem_cons_zero, List.getElem_cons_succ, Nat.reduceAdd, str_empty, eI, eS, eB, Int.toNat_zero, Int.reduceAdd, Int.reduceSub, Int.reduceToNat, Int.reduceMul, decide_false, decide_true, *] | simp (maxSteps := 1000000) (disch := first | omega | (simp only [Heap.n_push, Heap.n_put] <;> omega) | decide) only [w64, w32, wu8, Int.toNat_natCast, index_str Try.underlying9, slice_hi Try.underlying9, slice_lo Try.underlying9, slice_lohi Try.underlying9, decide_eq_true, decide_eq_false, hget_push_lt, hget_push_at, hget_put_ne, hget_put_at] | rw [M_draw (n := 91) (by first | with_reducible assumption | (simp only [put_some, put_none, Fr.n_set, *])) (by kernel_rfl)] | refine mcond_dec (fun _ => ?_) (fun _ => ?_) | refine mcond_ndec (fun _ => ?_) (fun _ => ?_) | refine mg_t_dec (fun _ => ?_) (fun _ => ?_) | refine mg_f_dec (fun _ => ?_) (fun _ => ?_) | refine mg_t_ndec (fun _ => ?_) (fun _ => ?_) | refine mg_f_ndec (fun _ => ?_) (fun _ => ?_) | refine mcond_cases (fun _ => ?_) (fun _ => ?_) | refine mg_t (fun _ => ?_) (fun _ => ?_) | refine mg_f (fun _ => ?_) (fun _ => ?_))
      all_goals (refine ⟨trivial, ?_, (by first | omega | trivial | (simp only [Heap.n_push, Heap.n_put]; done) | (simp only [Heap.n_push, Heap.n_put]; omega) | (simp only [Heap.n_push, Heap.n_put, *]; omega))⟩; (try simp only [ite_true, ite_false, Bool.true_or, Bool.false_or, or_true, true_or, or_false, false_or]); first | exact SpRep.of hp hlp hW hS hP hX hK | (refine SpRep.of (hget_put_at (by first | omega | trivial | (simp only [Heap.n_push, Heap.n_put]; done) | (simp only [Heap.n_push, Heap.n_put]; omega) | (simp only [Heap.n_push, Heap.n_put, *]; omega))) hlp ?_ ?_ ?_ ?_ ?_ <;> (repeat (first | refine Ol.put ?_ (by omega) | refine Kp.put ?_ (by omega))) <;> with_reducible assumption))
end Go.Ab.Ytnemoodjbekngaa
