/-
  What token.inner and token.Split compute. Conditions: those of each law.
-/
import Derived.Test.YtnemoodjbekngaaTokCompact
namespace Go.Ab.Ytnemoodjbekngaa
open Go Go.Ab Go.Proofs
set_option maxHeartbeats 4000000
set_option maxRecDepth 100000
set_option linter.unusedSimpArgs false
set_option linter.unusedVariables false
attribute [local go_sem] M_seq M_region M_op M_opg ev_move ev_assign ev_bin ev_un ev_pick ev_index ev_call ev_conv ev_len ev_extract ev_fieldAddr ev_load ev_store ev_nilCheck ev_box ev_slice ev_append ev_indexAddr eval_tmp eval_const eval_func MX_val M_ops_nil M_skip put_some put_none M_block M_loop M_cond get_put_eq get_put_ne Fr.n_set bin_lss bin_eql bin_neq bin_geq bin_leq bin_gtr bin_add bin_sub bin_and bin_or bin_shl bin_seq bin_sne MCond_true MCond_false M_ret M_exit M_blk M_out_blk M_out_other M_out_code M_out_loop yv_some yb_bool yb_undef Bool.not_true Bool.not_false MG_on MG_tf MG_ft MG_none evPick_true evPick_false un_not List.getElem?_cons_succ List.getElem?_cons_zero Option.bind_some M_end mq_ret0 mq_ret1 mq_ret2 mq_ret3 mq_end0 mq_end1 mq_end2 evO_some evH_some nilc_ptr rd1_row wr1_row ov_bool ov_int ov_float ov_string ov_pointer ov_slice ov_map ov_func List.set_cons_zero List.set_cons_succ Nat.zero_add Option.map_some Option.map_none fillA_nil evExtract_tuple List.append_nil List.nil_append List.cons_append Heap.n_push Heap.n_put mq_retc RC_some rdN_row wrN_row takeN_zero takeN_succ setN_nil setN_cons List.drop_zero List.drop_succ_cons List.length_cons List.length_nil ev_max evMM_max ev_buildSlice ev_makeSlice ev_alloc ev_build ptrTo Option.isSome_some evCall_plain evCall_captured ev_clear ev_makeFunc List.map_toArray List.map_cons List.map_nil List.toList_toArray

def zeroP (x : Int) : Bool := decide (x = 0)
theorem inner1_tells (K : Heap → Prop) : Tells K (.func (.func 48) #[] #[]) zeroP := by
  refine ⟨48, [], rfl, hb48, fun x H _ => ?_⟩
  simp only [List.append_nil]
  (refine calls_go (fn := Try.f48) (n := 5) (rs := [.tmp 2]) rfl Try.func48 rfl rfl rfl rfl ?_; intro fr hn hg; have g0 := hg 0 rfl; clear hg; simp only [List.getElem_cons_zero, List.getElem_cons_succ] at g0)
  repeat' (first | simp (maxSteps := 1000000) (decide := true) only [go_sem, List.getElem_cons_zero, List.getElem_cons_succ, Nat.reduceAdd, str_empty, eI, eS, eB, Int.toNat_zero, Int.reduceAdd, Int.reduceSub, Int.reduceToNat, Int.reduceMul, decide_false, decide_true, *] | simp (maxSteps := 1000000) (disch := first | omega | (simp only [Heap.n_push, Heap.n_put] <;> omega) | decide) only [w64, w32, wu8, Int.toNat_natCast, index_str Try.underlying9, slice_hi Try.underlying9, slice_lo Try.underlying9, slice_lohi Try.underlying9, decide_eq_true, decide_eq_false, hget_push_lt, hget_push_at, hget_put_ne, hget_put_at] | rw [M_draw (n := 5) (by first | with_reducible assumption | (simp only [put_some, put_none, Fr.n_set, *])) (by kernel_rfl)] | refine mcond_dec (fun _ => ?_) (fun _ => ?_) | refine mcond_ndec (fun _ => ?_) (fun _ => ?_) | refine mg_t_dec (fun _ => ?_) (fun _ => ?_) | refine mg_f_dec (fun _ => ?_) (fun _ => ?_) | refine mg_t_ndec (fun _ => ?_) (fun _ => ?_) | refine mg_f_ndec (fun _ => ?_) (fun _ => ?_) | refine mcond_cases (fun _ => ?_) (fun _ => ?_) | refine mg_t (fun _ => ?_) (fun _ => ?_) | refine mg_f (fun _ => ?_) (fun _ => ?_))
  exact ⟨rfl, trivial⟩
def innerM (xs : List Int) : List Int := dd (xs.filter fun x => !zeroP x)
theorem inner_run (xs : List Int) (a : Option Addr) (c : Nat) (H : Heap) (ho : Own H a xs.length c 1 (xs.map eI)) (hl : xs.length < 2 ^ 40) :
    CallsA Try.prog noprim 37 #[.slice a xs.length c] H fun r H' => ∃ a' c', r = .slice a' (innerM xs).length c' ∧ Own H' a' (innerM xs).length c' 1 ((innerM xs).map eI) ∧ H'.n = H.n ∧ (∀ j, j ∉ blkA a → H'.get j = H.get j) ∧ ∀ j ∈ blkA a', j ∈ blkA a := by
  (refine calls_go (fn := Try.f37) (n := 6) (rs := [.tmp 2]) rfl Try.func37 rfl rfl rfl rfl ?_; intro fr hn hg; have g0 := hg 0 rfl; clear hg; simp only [List.getElem_cons_zero, List.getElem_cons_succ] at g0)
  repeat' (first | simp (maxSteps := 1000000) (decide := true) only [go_sem, List.getElem_cons_zero, List.getElem_cons_succ, Nat.reduceAdd, str_empty, eI, eS, eB, Int.toNat_zero, Int.reduceAdd, Int.reduceSub, Int.reduceToNat, Int.reduceMul, decide_false, decide_true, *] | simp (maxSteps := 1000000) (disch := first | omega | (simp only [Heap.n_push, Heap.n_put] <;> omega) | decide) only [w64, w32, wu8, Int.toNat_natCast, index_str Try.underlying9, slice_hi Try.underlying9, slice_lo Try.underlying9, slice_lohi Try.underlying9, decide_eq_true, decide_eq_false, hget_push_lt, hget_push_at, hget_put_ne, hget_put_at] | rw [M_draw (n := 6) (by first | with_reducible assumption | (simp only [put_some, put_none, Fr.n_set, *])) (by kernel_rfl)] | refine mcond_dec (fun _ => ?_) (fun _ => ?_) | refine mcond_ndec (fun _ => ?_) (fun _ => ?_) | refine mg_t_dec (fun _ => ?_) (fun _ => ?_) | refine mg_f_dec (fun _ => ?_) (fun _ => ?_) | refine mg_t_ndec (fun _ => ?_) (fun _ => ?_) | refine mg_f_ndec (fun _ => ?_) (fun _ => ?_) | refine mcond_cases (fun _ => ?_) (fun _ => ?_) | refine mg_t (fun _ => ?_) (fun _ => ?_) | refine mg_f (fun _ => ?_) (fun _ => ?_))
  refine MX_call (deleteFunc_run (fun _ => True) _ zeroP (inner1_tells _) xs a c H ho (fun _ _ _ => trivial) hl) ?_
  rintro v1 H1 ⟨a1, c1, rfl, ho1, hn1, hf1, hb1⟩
  repeat' (first | simp (maxSteps := 1000000) (decide := true) only [go_sem, List.getElem_cons_zero, List.getElem_cons_succ, Nat.reduceAdd, str_empty, eI, eS, eB, Int.toNat_zero, Int.reduceAdd, Int.reduceSub, Int.reduceToNat, Int.reduceMul, decide_false, decide_true, *] | simp (maxSteps := 1000000) (disch := first | omega | (simp only [Heap.n_push, Heap.n_put] <;> omega) | decide) only [w64, w32, wu8, Int.toNat_natCast, index_str Try.underlying9, slice_hi Try.underlying9, slice_lo Try.underlying9, slice_lohi Try.underlying9, decide_eq_true, decide_eq_false, hget_push_lt, hget_push_at, hget_put_ne, hget_put_at] | rw [M_draw (n := 6) (by first | with_reducible assumption | (simp only [put_some, put_none, Fr.n_set, *])) (by kernel_rfl)] | refine mcond_dec (fun _ => ?_) (fun _ => ?_) | refine mcond_ndec (fun _ => ?_) (fun _ => ?_) | refine mg_t_dec (fun _ => ?_) (fun _ => ?_) | refine mg_f_dec (fun _ => ?_) (fun _ => ?_) | refine mg_t_ndec (fun _ => ?_) (fun _ => ?_) | refine mg_f_ndec (fun _ => ?_) (fun _ => ?_) | refine mcond_cases (fun _ => ?_) (fun _ => ?_) | refine mg_t (fun _ => ?_) (fun _ => ?_) | refine mg_f (fun _ => ?_) (fun _ => ?_))
  refine MX_call (compact_run _ a1 c1 H1 ho1 (by have := List.length_filter_le (fun x => !zeroP x) xs; omega)) ?_
  rintro v2 H2 ⟨a2, c2, rfl, ho2, hn2, hf2, hb2⟩
  repeat' (first | simp (maxSteps := 1000000) (decide := true) only [go_sem, List.getElem_cons_zero, List.getElem_cons_succ, Nat.reduceAdd, str_empty, eI, eS, eB, Int.toNat_zero, Int.reduceAdd, Int.reduceSub, Int.reduceToNat, Int.reduceMul, decide_false, decide_true, *] | simp (maxSteps := 1000000) (disch := first | omega | (simp only [Heap.n_push, Heap.n_put] <;> omega) | decide) only [w64, w32, wu8, Int.toNat_natCast, index_str Try.underlying9, slice_hi Try.underlying9, slice_lo Try.underlying9, slice_lohi Try.underlying9, decide_eq_true, decide_eq_false, hget_push_lt, hget_push_at, hget_put_ne, hget_put_at] | rw [M_draw (n := 6) (by first | with_reducible assumption | (simp only [put_some, put_none, Fr.n_set, *])) (by kernel_rfl)] | refine mcond_dec (fun _ => ?_) (fun _ => ?_) | refine mcond_ndec (fun _ => ?_) (fun _ => ?_) | refine mg_t_dec (fun _ => ?_) (fun _ => ?_) | refine mg_f_dec (fun _ => ?_) (fun _ => ?_) | refine mg_t_ndec (fun _ => ?_) (fun _ => ?_) | refine mg_f_ndec (fun _ => ?_) (fun _ => ?_) | refine mcond_cases (fun _ => ?_) (fun _ => ?_) | refine mg_t (fun _ => ?_) (fun _ => ?_) | refine mg_f (fun _ => ?_) (fun _ => ?_))
  exact ⟨a2, c2, rfl, ho2, by first | trivial | exact hn2.trans hn1, fun j hj => (hf2 j (fun h => hj (hb1 j h))).trans (hf1 j hj), fun j hj => hb1 j (hb2 j hj)⟩

/-! ### Split -/
def stepN (s : ByteArray) : Nat := max 1 (nextM s).2
def goS : Nat → Sp → ByteArray → Sp
  | 0, st, _ => st
  | f + 1, st, s => if s.size = 0 then st else goS f (signM st (nextM s).1 (takeB s (stepN s))) (dropB s (stepN s))
def sp0 : Sp := ⟨[], [], [], [], false, 0, false, false⟩
def splitM (s : ByteArray) : Sp := endM (goS s.size sp0 s)

theorem goM_le (s : ByteArray) (n : Nat) (low r : Int) : (goM s n low r).2 ≤ s.size ∧ ((goM s n low r).2 = 0 ∨ (goM s n low r).2 = n) := by
  unfold goM
  by_cases h : s.size < n
  · rw [if_pos h]; exact ⟨Nat.zero_le _, .inl rfl⟩
  · rw [if_neg h]
    cases tailM s (n - 1) 1 r with
    | none => exact ⟨Nat.zero_le _, .inl rfl⟩
    | some r =>
      simp only [finM]
      split
      · exact ⟨Nat.zero_le _, .inl rfl⟩
      · exact ⟨by simp only; omega, .inr rfl⟩
theorem next_le (s : ByteArray) : (nextM s).2 ≤ s.size := by
  unfold nextM
  split
  · exact Nat.zero_le _
  · split
    · simp only; omega
    · split
      · exact (goM_le _ _ _ _).1
      · split
        · exact (goM_le _ _ _ _).1
        · split
          · exact (goM_le _ _ _ _).1
          · exact Nat.zero_le _
theorem step_le (s : ByteArray) (h : 0 < s.size) : stepN s ≤ s.size ∧ 0 < stepN s := by
  have := next_le s
  unfold stepN; omega
theorem goS_fuel : ∀ (f : Nat) (st : Sp) (s : ByteArray), s.size ≤ f → goS f st s = goS s.size st s
  | 0, st, s, h => by rw [show s.size = 0 by omega]
  | f + 1, st, s, h => by
    by_cases h0 : s.size = 0
    · rw [h0]; simp [goS, h0]
    · obtain ⟨m, hm⟩ : ∃ m, s.size = m + 1 := ⟨s.size - 1, by omega⟩
      have hle := step_le s (by omega)
      rw [goS, if_neg h0, goS_fuel f _ _ (by rw [dropB_size]; omega), hm, goS, if_neg h0, goS_fuel m _ _ (by rw [dropB_size]; omega)]
theorem goS_step (st : Sp) (s : ByteArray) (h : ¬ s.size = 0) : goS s.size st s = goS (dropB s (stepN s)).size (signM st (nextM s).1 (takeB s (stepN s))) (dropB s (stepN s)) := by
  obtain ⟨m, hm⟩ : ∃ m, s.size = m + 1 := ⟨s.size - 1, by omega⟩
  have hle := step_le s (by omega)
  rw [hm, goS, if_neg h, goS_fuel m _ _ (by rw [dropB_size]; omega)]
/-- So many bytes in, the splitter's lists are no longer. -/
def Small (k : Nat) (st : Sp) : Prop := st.W.length ≤ k ∧ st.S.length ≤ k ∧ st.P.length ≤ k ∧ st.X.length ≤ k ∧ 0 ≤ st.lines ∧ st.lines ≤ k
theorem small_sign {k : Nat} {st : Sp} (h : Small k st) (r : Int) (s : ByteArray) (hs : 0 < s.size) : Small (k + s.size) (signM st r s) := by
  obtain ⟨h1, h2, h3, h4, h5, h6⟩ := h
  have hb : ∀ st, (beginM st).W = st.W ∧ (beginM st).S.length ≤ st.S.length + 1 ∧ (beginM st).P.length ≤ st.P.length + 1 ∧ (beginM st).X = st.X ∧ (beginM st).lines = 0 := by
    intro st; unfold beginM
    refine ⟨rfl, ?_, ?_, rfl, rfl⟩ <;> (simp only; split <;> simp)
  have he : ∀ st, (endM st).W.length ≤ st.W.length + 1 ∧ (endM st).S = st.S ∧ (endM st).P = st.P ∧ (endM st).X = [] ∧ (endM st).lines = st.lines := by
    intro st; unfold endM
    refine ⟨?_, rfl, rfl, rfl, rfl⟩
    simp only; split <;> simp
  have hl : s.data.toList.length = s.size := rfl
  obtain ⟨b1, b2, b3, b4, b5⟩ := hb st
  obtain ⟨e1, e2, e3, e4, e5⟩ := he st
  unfold signM
  split
  · have key : ∀ st1 : Sp, st1.W.length ≤ k + s.size → st1.S.length ≤ k + s.size → st1.P.length ≤ k + s.size → st1.X.length ≤ k → 0 ≤ st1.lines → st1.lines ≤ (k : Int) + s.size →
        Small (k + s.size) (if (st1.full || decide ((80 : Int) < st1.X.length + s.size)) = true then { st1 with full := true } else { st1 with X := st1.X ++ s.data.toList, full := false }) := by
      intro st1 g1 g2 g3 g4 g5 g6
      split
      · exact ⟨g1, g2, g3, by simp only; omega, g5, by simp only; omega⟩
      · exact ⟨g1, g2, g3, by simp only [List.length_append, hl]; omega, g5, by simp only; omega⟩
    simp only
    by_cases hX : st.X = []
    · rw [if_pos hX]
      exact key _ (by rw [b1]; omega) (by omega) (by omega) (by rw [b4]; omega) (by rw [b5]; omega) (by rw [b5]; omega)
    · rw [if_neg hX]
      exact key _ (by omega) (by omega) (by omega) (by omega) h5 (by omega)
  · simp only
    split
    · exact ⟨by simp only; omega, by simp only [e2]; omega, by simp only [e3]; omega, by simp [e4], by simp, by simp only; omega⟩
    · split
      · exact ⟨by simp only; omega, by simp only [e2]; omega, by simp only [e3]; omega, by simp [e4], by simp only [e5]; omega, by simp only [e5]; omega⟩
      · split
        · exact ⟨by omega, by rw [e2]; omega, by rw [e3]; omega, by simp [e4], by rw [e5]; omega, by rw [e5]; omega⟩
        · exact ⟨by simp only; omega, by simp only [e2]; omega, by simp only [e3]; omega, by simp [e4], by simp, by simp only; omega⟩

theorem split_run (s : ByteArray) (H : Heap) (hs : s.size < 2 ^ 29) :
    CallsA Try.prog noprim 17 #[.string s] H fun r H' => ∃ aW nW cW aS nS cS aP nP cP, r = .agg (([.slice aW nW cW, .slice aS nS cS, .slice aP nP cP] : List Value)).toArray ∧
      SlV eS H' (.slice aW nW cW) (splitM s).W ∧ SlV eI H' (.slice aS nS cS) (innerM (splitM s).S) ∧ SlV eI H' (.slice aP nP cP) (innerM (splitM s).P) ∧ H.n ≤ H'.n ∧ ∀ j, j < H.n → H'.get j = H.get j := by
  (refine calls_go (fn := Try.f17) (n := 52) (rs := [.cell 2 31]) rfl Try.func17 rfl rfl rfl rfl ?_; intro fr hn hg; have g0 := hg 0 rfl; clear hg; simp only [List.getElem_cons_zero, List.getElem_cons_succ] at g0)
  repeat' (first | simp (maxSteps := 1000000) (decide := true) only [go_sem, List.getElem_cons_zero, List.getElem_cons_succ, Nat.reduceAdd, str_empty, eI, eS, eB, Int.toNat_zero, Int.reduceAdd, Int.reduceSub, Int.reduceToNat, Int.reduceMul, decide_false, decide_true, *] | simp (maxSteps := 1000000) (disch := first | omega | (simp only [Heap.n_push, Heap.n_put] <;> omega) | decide) only [w64, w32, wu8, Int.toNat_natCast, index_str Try.underlying9, slice_hi Try.underlying9, slice_lo Try.underlying9, slice_lohi Try.underlying9, decide_eq_true, decide_eq_false, hget_push_lt, hget_push_at, hget_put_ne, hget_put_at] | rw [M_draw (n := 52) (by first | with_reducible assumption | (simp only [put_some, put_none, Fr.n_set, *])) (by kernel_rfl)] | refine mcond_dec (fun _ => ?_) (fun _ => ?_) | refine mcond_ndec (fun _ => ?_) (fun _ => ?_) | refine mg_t_dec (fun _ => ?_) (fun _ => ?_) | refine mg_f_dec (fun _ => ?_) (fun _ => ?_) | refine mg_t_ndec (fun _ => ?_) (fun _ => ?_) | refine mg_f_ndec (fun _ => ?_) (fun _ => ?_) | refine mcond_cases (fun _ => ?_) (fun _ => ?_) | refine mg_t (fun _ => ?_) (fun _ => ?_) | refine mg_f (fun _ => ?_) (fun _ => ?_))
  refine M_rounds (fun d fr' H' => fr'.n = 52 ∧ ∃ (st : Sp) (s' : ByteArray), d = s'.size ∧ s'.size ≤ s.size ∧ Small (s.size - s'.size) st ∧ goS s'.size st s' = goS s.size sp0 s ∧
    SpRep (H.n + 1) (H.push (.row (.rw 0) [.slice none 0 0, .slice none 0 0, .slice none 0 0])) H' (H.n + 1) st ∧ fr'.get 0 = .string s' ∧ fr'.get 2 = .pointer (some ⟨H.n, 0, none⟩) ∧ fr'.get 3 = .pointer (some ⟨H.n + 1, 0, none⟩)) s.size
    ⟨by (first | with_reducible assumption | (simp (maxSteps := 1000000) (decide := true) only [put_some, put_none, Fr.n_set, get_put_eq, get_put_ne, Heap.n_push, Heap.n_put, Int.natCast_zero, Int.natCast_add, Int.natCast_one, *]; done) | (simp (maxSteps := 1000000) (decide := true) only [put_some, put_none, Fr.n_set, get_put_eq, get_put_ne, Heap.n_push, Heap.n_put, Int.natCast_zero, Int.natCast_add, Int.natCast_one, *]; omega) | omega), sp0, s, rfl, by omega, ⟨by simp [sp0], by simp [sp0], by simp [sp0], by simp [sp0], by simp [sp0], by simp [sp0]⟩, rfl, ?_, by (first | with_reducible assumption | (simp (maxSteps := 1000000) (decide := true) only [put_some, put_none, Fr.n_set, get_put_eq, get_put_ne, Heap.n_push, Heap.n_put, Int.natCast_zero, Int.natCast_add, Int.natCast_one, *]; done) | (simp (maxSteps := 1000000) (decide := true) only [put_some, put_none, Fr.n_set, get_put_eq, get_put_ne, Heap.n_push, Heap.n_put, Int.natCast_zero, Int.natCast_add, Int.natCast_one, *]; omega) | omega), by (first | with_reducible assumption | (simp (maxSteps := 1000000) (decide := true) only [put_some, put_none, Fr.n_set, get_put_eq, get_put_ne, Heap.n_push, Heap.n_put, Int.natCast_zero, Int.natCast_add, Int.natCast_one, *]; done) | (simp (maxSteps := 1000000) (decide := true) only [put_some, put_none, Fr.n_set, get_put_eq, get_put_ne, Heap.n_push, Heap.n_put, Int.natCast_zero, Int.natCast_add, Int.natCast_one, *]; omega) | omega), by (first | with_reducible assumption | (simp (maxSteps := 1000000) (decide := true) only [put_some, put_none, Fr.n_set, get_put_eq, get_put_ne, Heap.n_push, Heap.n_put, Int.natCast_zero, Int.natCast_add, Int.natCast_one, *]; done) | (simp (maxSteps := 1000000) (decide := true) only [put_some, put_none, Fr.n_set, get_put_eq, get_put_ne, Heap.n_push, Heap.n_put, Int.natCast_zero, Int.natCast_add, Int.natCast_one, *]; omega) | omega)⟩ ?_
  · refine SpRep.of (lab := fun j => if j = H.n + 1 then 0 else 9) (hget_push_at rfl) (if_pos rfl) (Ol.nil _) (Ol.nil _) (Ol.nil _) (Ol.nil _) ⟨by simp only [Heap.n_push]; omega, fun j hj => ⟨if_neg (by omega), hget_push_lt (by simp only [Heap.n_push]; omega)⟩⟩
  rintro d jj fr' H' ⟨hn', st, s', rfl, hss, hsm, hgo, hsp, g0', g2, g3⟩ ih
  by_cases hs0 : s'.size = 0
  · have hsm0 := hsm
    rw [hs0, goS] at hgo
    obtain ⟨m1, m2, m3, m4, m5, m6⟩ := hsm
    repeat' (first | simp (maxSteps := 1000000) (decide := true) only [go_sem, List.getElem_cons_zero, List.getElem_cons_succ, Nat.reduceAdd, str_empty, eI, eS, eB, Int.toNat_zero, Int.reduceAdd, Int.reduceSub, Int.reduceToNat, Int.reduceMul, decide_false, decide_true, *] | simp (maxSteps := 1000000) (disch := first | omega | (simp only [Heap.n_push, Heap.n_put] <;> omega) | decide) only [w64, w32, wu8, Int.toNat_natCast, index_str Try.underlying9, slice_hi Try.underlying9, slice_lo Try.underlying9, slice_lohi Try.underlying9, decide_eq_true, decide_eq_false, hget_push_lt, hget_push_at, hget_put_ne, hget_put_at] | rw [M_draw (n := 52) (by first | with_reducible assumption | (simp only [put_some, put_none, Fr.n_set, *])) (by kernel_rfl)] | refine mcond_dec (fun _ => ?_) (fun _ => ?_) | refine mcond_ndec (fun _ => ?_) (fun _ => ?_) | refine mg_t_dec (fun _ => ?_) (fun _ => ?_) | refine mg_f_dec (fun _ => ?_) (fun _ => ?_) | refine mg_t_ndec (fun _ => ?_) (fun _ => ?_) | refine mg_f_ndec (fun _ => ?_) (fun _ => ?_) | refine mcond_cases (fun _ => ?_) (fun _ => ?_) | refine mg_t (fun _ => ?_) (fun _ => ?_) | refine mg_f (fun _ => ?_) (fun _ => ?_))
    refine MX_call (end_run _ _ (H.n + 1) st H' hsp (by omega)) ?_
    rintro v1 H1 ⟨rfl, h1, hle⟩
    have e1 : endM st = splitM s := by rw [hgo]; rfl
    rw [e1] at h1
    have hSb : (splitM s).S.length < 2 ^ 40 := by rw [← e1]; show st.S.length < _; omega
    have hPb : (splitM s).P.length < 2 ^ 40 := by rw [← e1]; show st.P.length < _; omega
    clear hgo e1 hsm0 m1 m2 m3 m4 m5 m6 hsp
    generalize splitM s = sf at *
    obtain ⟨lab, aW, nW, cW, aS, nS, cS, aP, nP, cP, aX, nX, cX, hp, hlp, hW, hS, hP, hX, hK⟩ := h1
    have hWn := hW.len
    have hSn := hS.len
    have hPn := hP.len
    have hl1 := Heap.lt_of_get hp
    subst hWn hSn hPn
    repeat' (first | simp (maxSteps := 1000000) (decide := true) only [go_sem, List.getElem_cons_zero, List.getElem_cons_succ, Nat.reduceAdd, str_empty, eI, eS, eB, Int.toNat_zero, Int.reduceAdd, Int.reduceSub, Int.reduceToNat, Int.reduceMul, decide_false, decide_true, *] | simp (maxSteps := 1000000) (disch := first | omega | (simp only [Heap.n_push, Heap.n_put] <;> omega) | decide) only [w64, w32, wu8, Int.toNat_natCast, index_str Try.underlying9, slice_hi Try.underlying9, slice_lo Try.underlying9, slice_lohi Try.underlying9, decide_eq_true, decide_eq_false, hget_push_lt, hget_push_at, hget_put_ne, hget_put_at] | rw [M_draw (n := 52) (by first | with_reducible assumption | (simp only [put_some, put_none, Fr.n_set, *])) (by kernel_rfl)] | refine mcond_dec (fun _ => ?_) (fun _ => ?_) | refine mcond_ndec (fun _ => ?_) (fun _ => ?_) | refine mg_t_dec (fun _ => ?_) (fun _ => ?_) | refine mg_f_dec (fun _ => ?_) (fun _ => ?_) | refine mg_t_ndec (fun _ => ?_) (fun _ => ?_) | refine mg_f_ndec (fun _ => ?_) (fun _ => ?_) | refine mcond_cases (fun _ => ?_) (fun _ => ?_) | refine mg_t (fun _ => ?_) (fun _ => ?_) | refine mg_f (fun _ => ?_) (fun _ => ?_))
    refine MX_call (inner_run sf.S aS cS H1 hS.2.1 hSb) ?_
    rintro v2 H2 ⟨a2, c2, rfl, ho2, hn2, hf2, hb2⟩
    have hp2 := (hf2 (H.n + 1) (fun h => by have := hS.2.2 _ h; omega)).trans hp
    have hl2 : H.n + 1 < H2.n := by omega
    have hP2 : Own H2 aP sf.P.length cP 1 (sf.P.map eI) := hP.2.1.frame fun j hj => hf2 j fun h => by have := hS.2.2 j h; have := hP.2.2 j hj; omega
    repeat' (first | simp (maxSteps := 1000000) (decide := true) only [go_sem, List.getElem_cons_zero, List.getElem_cons_succ, Nat.reduceAdd, str_empty, eI, eS, eB, Int.toNat_zero, Int.reduceAdd, Int.reduceSub, Int.reduceToNat, Int.reduceMul, decide_false, decide_true, *] | simp (maxSteps := 1000000) (disch := first | omega | (simp only [Heap.n_push, Heap.n_put] <;> omega) | decide) only [w64, w32, wu8, Int.toNat_natCast, index_str Try.underlying9, slice_hi Try.underlying9, slice_lo Try.underlying9, slice_lohi Try.underlying9, decide_eq_true, decide_eq_false, hget_push_lt, hget_push_at, hget_put_ne, hget_put_at] | rw [M_draw (n := 52) (by first | with_reducible assumption | (simp only [put_some, put_none, Fr.n_set, *])) (by kernel_rfl)] | refine mcond_dec (fun _ => ?_) (fun _ => ?_) | refine mcond_ndec (fun _ => ?_) (fun _ => ?_) | refine mg_t_dec (fun _ => ?_) (fun _ => ?_) | refine mg_f_dec (fun _ => ?_) (fun _ => ?_) | refine mg_t_ndec (fun _ => ?_) (fun _ => ?_) | refine mg_f_ndec (fun _ => ?_) (fun _ => ?_) | refine mcond_cases (fun _ => ?_) (fun _ => ?_) | refine mg_t (fun _ => ?_) (fun _ => ?_) | refine mg_f (fun _ => ?_) (fun _ => ?_))
    refine MX_call (inner_run sf.P aP cP _ (hP2.frame fun j hj => hget_put_ne (fun e => by have := hP.2.2 j hj; rw [e] at this; omega)) hPb) ?_
    rintro v3 H3 ⟨a3, c3, rfl, ho3, hn3, hf3, hb3⟩
    have hp3 := (hf3 (H.n + 1) (fun h => by have := hP.2.2 _ h; omega)).trans (hget_put_at hl2)
    have hK2 : ∀ j, j < H.n + 1 → H3.get j = (H.push (.row (.rw 0) [.slice none 0 0, .slice none 0 0, .slice none 0 0])).get j := by
      intro j hj
      have h9 := (hK.2 j hj).1
      rw [hf3 j (fun h => by have := hP.2.2 _ h; omega), hget_put_ne (by omega), hf2 j (fun h => by have := hS.2.2 _ h; omega)]
      exact (hK.2 j hj).2
    have hq := (hK2 H.n (by omega)).trans (hget_push_at rfl)
    have hl3 : H.n + 1 < H3.n := by rw [hn3]; exact hl2
    repeat' (first | simp (maxSteps := 1000000) (decide := true) only [go_sem, List.getElem_cons_zero, List.getElem_cons_succ, Nat.reduceAdd, str_empty, eI, eS, eB, Int.toNat_zero, Int.reduceAdd, Int.reduceSub, Int.reduceToNat, Int.reduceMul, decide_false, decide_true, *] | simp (maxSteps := 1000000) (disch := first | omega | (simp only [Heap.n_push, Heap.n_put] <;> omega) | decide) only [w64, w32, wu8, Int.toNat_natCast, index_str Try.underlying9, slice_hi Try.underlying9, slice_lo Try.underlying9, slice_lohi Try.underlying9, decide_eq_true, decide_eq_false, hget_push_lt, hget_push_at, hget_put_ne, hget_put_at] | rw [M_draw (n := 52) (by first | with_reducible assumption | (simp only [put_some, put_none, Fr.n_set, *])) (by kernel_rfl)] | refine mcond_dec (fun _ => ?_) (fun _ => ?_) | refine mcond_ndec (fun _ => ?_) (fun _ => ?_) | refine mg_t_dec (fun _ => ?_) (fun _ => ?_) | refine mg_f_dec (fun _ => ?_) (fun _ => ?_) | refine mg_t_ndec (fun _ => ?_) (fun _ => ?_) | refine mg_f_ndec (fun _ => ?_) (fun _ => ?_) | refine mcond_cases (fun _ => ?_) (fun _ => ?_) | refine mg_t (fun _ => ?_) (fun _ => ?_) | refine mg_f (fun _ => ?_) (fun _ => ?_))
    have h9 := (hK.2 H.n (by omega)).1
    refine ⟨aW, _, cW, a2, _, c2, a3, _, c3, rfl, ?_, ?_, ?_, ?_, ?_⟩
    · refine (hW.2.1.frame fun j hj => ?_).vw
      · have h1 := hW.2.2 j hj
        rw [hget_put_ne (by rintro rfl; omega), hget_put_ne (by rintro rfl; omega), hf3 j (fun h => by have := hP.2.2 _ h; omega), hget_put_ne (by rintro rfl; omega), hf2 j (fun h => by have := hS.2.2 _ h; omega)]
    · refine (ho2.frame fun j hj => ?_).vw
      have h1 := hS.2.2 j (hb2 j hj)
      rw [hget_put_ne (by rintro rfl; omega), hget_put_ne (by rintro rfl; omega), hf3 j (fun h => by have := hP.2.2 _ h; omega), hget_put_ne (by rintro rfl; omega)]
    · refine (ho3.frame fun j hj => ?_).vw
      have h1 := hP.2.2 j (hb3 j hj)
      rw [hget_put_ne (by rintro rfl; omega), hget_put_ne (by rintro rfl; omega)]
    · first | omega | (rw [Heap.n_put, Heap.n_put]; omega)
    · intro j hj
      rw [hget_put_ne (by omega), hget_put_ne (by omega), hK2 j (by omega), hget_push_lt hj]
  · have hst : max (1 : Int) ((nextM s').2 : Int) = (stepN s' : Int) := by unfold stepN; omega
    have hle := step_le s' (by omega)
    repeat' (first | simp (maxSteps := 1000000) (decide := true) only [go_sem, List.getElem_cons_zero, List.getElem_cons_succ, Nat.reduceAdd, str_empty, eI, eS, eB, Int.toNat_zero, Int.reduceAdd, Int.reduceSub, Int.reduceToNat, Int.reduceMul, decide_false, decide_true, *] | simp (maxSteps := 1000000) (disch := first | omega | (simp only [Heap.n_push, Heap.n_put] <;> omega) | decide) only [w64, w32, wu8, Int.toNat_natCast, index_str Try.underlying9, slice_hi Try.underlying9, slice_lo Try.underlying9, slice_lohi Try.underlying9, decide_eq_true, decide_eq_false, hget_push_lt, hget_push_at, hget_put_ne, hget_put_at] | rw [M_draw (n := 52) (by first | with_reducible assumption | (simp only [put_some, put_none, Fr.n_set, *])) (by kernel_rfl)] | refine mcond_dec (fun _ => ?_) (fun _ => ?_) | refine mcond_ndec (fun _ => ?_) (fun _ => ?_) | refine mg_t_dec (fun _ => ?_) (fun _ => ?_) | refine mg_f_dec (fun _ => ?_) (fun _ => ?_) | refine mg_t_ndec (fun _ => ?_) (fun _ => ?_) | refine mg_f_ndec (fun _ => ?_) (fun _ => ?_) | refine mcond_cases (fun _ => ?_) (fun _ => ?_) | refine mg_t (fun _ => ?_) (fun _ => ?_) | refine mg_f (fun _ => ?_) (fun _ => ?_))
    refine MX_call (next_run s' H') ?_
    rintro v1 H1 ⟨rfl, hH⟩
    rw [hH]
    clear hH H1
    repeat' (first | simp (maxSteps := 1000000) (decide := true) only [go_sem, List.getElem_cons_zero, List.getElem_cons_succ, Nat.reduceAdd, str_empty, eI, eS, eB, Int.toNat_zero, Int.reduceAdd, Int.reduceSub, Int.reduceToNat, Int.reduceMul, decide_false, decide_true, *] | simp (maxSteps := 1000000) (disch := first | omega | (simp only [Heap.n_push, Heap.n_put] <;> omega) | decide) only [w64, w32, wu8, Int.toNat_natCast, index_str Try.underlying9, slice_hi Try.underlying9, slice_lo Try.underlying9, slice_lohi Try.underlying9, decide_eq_true, decide_eq_false, hget_push_lt, hget_push_at, hget_put_ne, hget_put_at] | rw [M_draw (n := 52) (by first | with_reducible assumption | (simp only [put_some, put_none, Fr.n_set, *])) (by kernel_rfl)] | refine mcond_dec (fun _ => ?_) (fun _ => ?_) | refine mcond_ndec (fun _ => ?_) (fun _ => ?_) | refine mg_t_dec (fun _ => ?_) (fun _ => ?_) | refine mg_f_dec (fun _ => ?_) (fun _ => ?_) | refine mg_t_ndec (fun _ => ?_) (fun _ => ?_) | refine mg_f_ndec (fun _ => ?_) (fun _ => ?_) | refine mcond_cases (fun _ => ?_) (fun _ => ?_) | refine mg_t (fun _ => ?_) (fun _ => ?_) | refine mg_f (fun _ => ?_) (fun _ => ?_))
    refine MX_call (sign_run _ _ (H.n + 1) st (nextM s').1 (takeB s' (stepN s')) H' hsp (by have := hsm.1; omega) (by have := hsm.2.1; omega) (by have := hsm.2.2.1; omega) (by have := hsm.2.2.2.1; omega) (by rw [takeB_size]; omega) (by rw [takeB_size]; omega) hsm.2.2.2.2.1 (by have := hsm.2.2.2.2.2; omega)) ?_
    rintro v1 H1 ⟨rfl, h1, hle1⟩
    repeat' (first | simp (maxSteps := 1000000) (decide := true) only [go_sem, List.getElem_cons_zero, List.getElem_cons_succ, Nat.reduceAdd, str_empty, eI, eS, eB, Int.toNat_zero, Int.reduceAdd, Int.reduceSub, Int.reduceToNat, Int.reduceMul, decide_false, decide_true, *] | simp (maxSteps := 1000000) (disch := first | omega | (simp only [Heap.n_push, Heap.n_put] <;> omega) | decide) only [w64, w32, wu8, Int.toNat_natCast, index_str Try.underlying9, slice_hi Try.underlying9, slice_lo Try.underlying9, slice_lohi Try.underlying9, decide_eq_true, decide_eq_false, hget_push_lt, hget_push_at, hget_put_ne, hget_put_at] | rw [M_draw (n := 52) (by first | with_reducible assumption | (simp only [put_some, put_none, Fr.n_set, *])) (by kernel_rfl)] | refine mcond_dec (fun _ => ?_) (fun _ => ?_) | refine mcond_ndec (fun _ => ?_) (fun _ => ?_) | refine mg_t_dec (fun _ => ?_) (fun _ => ?_) | refine mg_f_dec (fun _ => ?_) (fun _ => ?_) | refine mg_t_ndec (fun _ => ?_) (fun _ => ?_) | refine mg_f_ndec (fun _ => ?_) (fun _ => ?_) | refine mcond_cases (fun _ => ?_) (fun _ => ?_) | refine mg_t (fun _ => ?_) (fun _ => ?_) | refine mg_f (fun _ => ?_) (fun _ => ?_))
    refine ih _ _ _ ?_ ⟨by (first | with_reducible assumption | (simp (maxSteps := 1000000) (decide := true) only [put_some, put_none, Fr.n_set, get_put_eq, get_put_ne, Heap.n_push, Heap.n_put, Int.natCast_zero, Int.natCast_add, Int.natCast_one, *]; done) | (simp (maxSteps := 1000000) (decide := true) only [put_some, put_none, Fr.n_set, get_put_eq, get_put_ne, Heap.n_push, Heap.n_put, Int.natCast_zero, Int.natCast_add, Int.natCast_one, *]; omega) | omega), _, dropB s' (stepN s'), rfl, ?_, ?_, ?_, h1, by (first | with_reducible assumption | (simp (maxSteps := 1000000) (decide := true) only [put_some, put_none, Fr.n_set, get_put_eq, get_put_ne, Heap.n_push, Heap.n_put, Int.natCast_zero, Int.natCast_add, Int.natCast_one, *]; done) | (simp (maxSteps := 1000000) (decide := true) only [put_some, put_none, Fr.n_set, get_put_eq, get_put_ne, Heap.n_push, Heap.n_put, Int.natCast_zero, Int.natCast_add, Int.natCast_one, *]; omega) | omega), by (first | with_reducible assumption | (simp (maxSteps := 1000000) (decide := true) only [put_some, put_none, Fr.n_set, get_put_eq, get_put_ne, Heap.n_push, Heap.n_put, Int.natCast_zero, Int.natCast_add, Int.natCast_one, *]; done) | (simp (maxSteps := 1000000) (decide := true) only [put_some, put_none, Fr.n_set, get_put_eq, get_put_ne, Heap.n_push, Heap.n_put, Int.natCast_zero, Int.natCast_add, Int.natCast_one, *]; omega) | omega), by (first | with_reducible assumption | (simp (maxSteps := 1000000) (decide := true) only [put_some, put_none, Fr.n_set, get_put_eq, get_put_ne, Heap.n_push, Heap.n_put, Int.natCast_zero, Int.natCast_add, Int.natCast_one, *]; done) | (simp (maxSteps := 1000000) (decide := true) only [put_some, put_none, Fr.n_set, get_put_eq, get_put_ne, Heap.n_push, Heap.n_put, Int.natCast_zero, Int.natCast_add, Int.natCast_one, *]; omega) | omega)⟩
    · rw [dropB_size]; omega
    · rw [dropB_size]; omega
    · have := small_sign hsm (nextM s').1 (takeB s' (stepN s')) (by rw [takeB_size]; omega)
      rw [takeB_size] at this
      rw [dropB_size]
      rw [show s.size - (s'.size - stepN s') = s.size - s'.size + min (stepN s') s'.size by omega]
      exact this
    · rw [← goS_step st s' hs0]; exact hgo
end Go.Ab.Ytnemoodjbekngaa
