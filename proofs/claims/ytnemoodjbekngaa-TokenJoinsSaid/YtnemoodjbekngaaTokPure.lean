/-
  The splitter and the statements' own taking apart come to the same. No conditions.
-/
import Derived.Test.YtnemoodjbekngaaTokLaw2
namespace Go.Ab.Ytnemoodjbekngaa
open Go Go.Ab Go.Proofs
set_option maxHeartbeats 4000000
set_option maxRecDepth 100000
set_option linter.unusedSimpArgs false
set_option linter.unusedVariables false
attribute [local go_sem] M_seq M_region M_op M_opg ev_move ev_assign ev_bin ev_un ev_pick ev_index ev_call ev_conv ev_len ev_extract ev_fieldAddr ev_load ev_store ev_nilCheck ev_box ev_slice ev_append ev_indexAddr eval_tmp eval_const eval_func MX_val M_ops_nil M_skip put_some put_none M_block M_loop M_cond get_put_eq get_put_ne Fr.n_set bin_lss bin_eql bin_neq bin_geq bin_leq bin_gtr bin_add bin_sub bin_and bin_or bin_shl bin_seq bin_sne MCond_true MCond_false M_ret M_exit M_blk M_out_blk M_out_other M_out_code M_out_loop yv_some yb_bool yb_undef Bool.not_true Bool.not_false MG_on MG_tf MG_ft MG_none evPick_true evPick_false un_not List.getElem?_cons_succ List.getElem?_cons_zero Option.bind_some M_end mq_ret0 mq_ret1 mq_ret2 mq_ret3 mq_end0 mq_end1 mq_end2 evO_some evH_some nilc_ptr rd1_row wr1_row ov_bool ov_int ov_float ov_string ov_pointer ov_slice ov_map ov_func List.set_cons_zero List.set_cons_succ Nat.zero_add Option.map_some Option.map_none fillA_nil evExtract_tuple List.append_nil List.nil_append List.cons_append Heap.n_push Heap.n_put mq_retc RC_some rdN_row wrN_row takeN_zero takeN_succ setN_nil setN_cons List.drop_zero List.drop_succ_cons List.length_cons List.length_nil ev_max evMM_max ev_buildSlice ev_makeSlice ev_alloc ev_build ptrTo Option.isSome_some evCall_plain evCall_captured ev_clear ev_makeFunc List.map_toArray List.map_cons List.map_nil List.toList_toArray

/-! ### Signs -/
theorem cont_high : ∀ b : BitVec 8, (b &&& 192#8) = 128#8 → 128 ≤ b.toNat := by decide
theorem contB_high {b : UInt8} (h : contB b = true) : 128 ≤ b.toNat := by
  unfold contB iand at h
  simp only [decide_eq_true_eq] at h
  apply cont_high b.toBitVec
  apply BitVec.eq_of_toNat_eq
  have e : BitVec.ofInt IntKind.u8.bits (b.toNat : Int) = b.toBitVec := by
    apply BitVec.eq_of_toNat_eq
    show (BitVec.ofInt 8 (b.toNat : Int)).toNat = b.toBitVec.toNat
    rw [BitVec.toNat_ofInt]
    have := b.toNat_lt
    show ((b.toNat : Int) % 256).toNat = b.toNat
    omega
  rw [e] at h
  have hw : ∀ n : Nat, n < 256 → IntKind.u8.wrap (n : Int) = n := fun n hn => wu8 (by omega) (by omega)
  rw [hw _ (BitVec.isLt _)] at h
  have : (BitVec.ofInt IntKind.u8.bits 192 : BitVec 8) = 192#8 := by
    show BitVec.ofInt 8 192 = 192#8
    decide
  rw [this] at h
  have h' : (b.toBitVec &&& 192#8).toNat = 128 := by exact_mod_cast h
  rw [h']; rfl
theorem tail_high (s : ByteArray) : ∀ (m k : Nat) (r r' : Int), tailM s m k r = some r' → ∀ j, k ≤ j → j < k + m → 128 ≤ (btAt s j).toNat
  | 0, k, r, r', h, j, h1, h2 => by omega
  | m + 1, k, r, r', h, j, h1, h2 => by
    rw [tailM] at h
    split at h
    · rename_i hc
      by_cases hj : j = k
      · rw [hj]; exact contB_high hc
      · exact tail_high s m (k + 1) _ _ h j (by omega) (by omega)
    · cases h
/-- What a sign is. -/
def SignOk (s : ByteArray) (x : Int × Nat) : Prop :=
  (x.2 = 0 ∧ x.1 = 0 ∧ 128 ≤ (btAt s 0).toNat) ∨ (x.2 = 1 ∧ x.1 = (btAt s 0).toNat ∧ (btAt s 0).toNat < 128) ∨ (2 ≤ x.2 ∧ x.2 ≤ 4 ∧ 128 ≤ x.1 ∧ ∀ j, j < x.2 → 128 ≤ (btAt s j).toNat)
theorem goM_ok (s : ByteArray) (n : Nat) (low r : Int) (hn : 2 ≤ n ∧ n ≤ 4) (hl : 128 ≤ low) (h0 : 128 ≤ (btAt s 0).toNat) : SignOk s (goM s n low r) := by
  unfold goM
  split
  · exact .inl ⟨rfl, rfl, h0⟩
  · cases ht : tailM s (n - 1) 1 r with
    | none => exact .inl ⟨rfl, rfl, h0⟩
    | some r1 =>
      simp only [finM]
      split
      · exact .inl ⟨rfl, rfl, h0⟩
      · refine .inr (.inr ⟨hn.1, hn.2, by simp only; omega, fun j hj => ?_⟩)
        by_cases hj0 : j = 0
        · rw [hj0]; exact h0
        · exact tail_high s _ _ _ _ ht j (by omega) (by simp only at hj; omega)
theorem next_ok (s : ByteArray) (h : ¬ s.size = 0) : SignOk s (nextM s) := by
  unfold nextM
  rw [if_neg h]
  split
  · rename_i h1
    refine .inr (.inl ⟨rfl, ?_, by omega⟩)
    exact w32 (by omega) (by omega)
  · rename_i h1
    have h0 : 128 ≤ (btAt s 0).toNat := by omega
    split
    · exact goM_ok s 2 128 _ (by omega) (by omega) h0
    · split
      · exact goM_ok s 3 2048 _ (by omega) (by omega) h0
      · split
        · exact goM_ok s 4 65536 _ (by omega) (by omega) h0
        · exact .inl ⟨rfl, rfl, h0⟩
theorem bytes_take (s : ByteArray) : ∀ n, n ≤ s.size → (takeB s n).data.toList = (List.range n).map (btAt s) := by
  intro n hn
  rw [takeB_list]
  apply List.ext_getElem?
  intro i
  have hl : s.data.toList.length = s.size := rfl
  by_cases hi : i < n
  · rw [List.getElem?_take_of_lt hi]
    simp only [List.getElem?_map, List.getElem?_range hi, Option.map_some, btAt, List.getD_eq_getElem?_getD]
    rw [List.getElem?_eq_getElem (by omega)]; rfl
  · rw [List.getElem?_eq_none (by rw [List.length_take]; omega), List.getElem?_eq_none (by simp; omega)]
theorem gs_high {t : Bool × Bool × Int} {c : Int} (h : 128 ≤ c) : gs t c = (t.1, t.2.1, 0) := by
  unfold gs
  rw [if_neg (by omega), if_neg (by omega), if_neg (by omega)]
theorem fold_high (s : ByteArray) (t : Bool × Bool × Int) : ∀ n, 0 < n → (∀ j, j < n → 128 ≤ (btAt s j).toNat) → ((List.range n).map (btAt s)).foldl gsB t = (t.1, t.2.1, 0)
  | 0, h, _ => by omega
  | 1, _, h => by
    have := h 0 (by omega)
    simp only [List.range_succ, List.range_zero, List.nil_append, List.map_cons, List.map_nil, List.foldl_cons, List.foldl_nil, gsB]
    exact gs_high (by omega)
  | n + 2, _, h => by
    have ih := fold_high s t (n + 1) (by omega) fun j hj => h j (by omega)
    have := h (n + 1) (by omega)
    rw [List.range_succ, List.map_append, List.foldl_append, ih]
    simp only [List.map_cons, List.map_nil, List.foldl_cons, List.foldl_nil, gsB]
    exact gs_high (by omega)
/-- A sign that is no letter, in a gap. -/
theorem gap_sign (s : ByteArray) (h : ¬ s.size = 0) (t : Bool × Bool × Int) : (takeB s (stepN s)).data.toList.foldl gsB t = gs t (nextM s).1 := by
  have hle := step_le s (by omega)
  rw [bytes_take s _ hle.1]
  rcases next_ok s h with ⟨h1, h2, h3⟩ | ⟨h1, h2, h3⟩ | ⟨h1, h2, h3, h4⟩
  · have hn : stepN s = 1 := by unfold stepN; omega
    rw [hn, fold_high s t 1 (by omega) (fun j hj => by rw [show j = 0 by omega]; exact h3), h2]
    unfold gs; simp
  · have hn : stepN s = 1 := by unfold stepN; omega
    rw [hn, h2]
    simp [List.range_succ, gsB]
  · have hn : stepN s = (nextM s).2 := by unfold stepN; omega
    rw [hn, fold_high s t _ (by omega) h4, gs_high h3]
theorem sign_other (st : Sp) (r : Int) (s : ByteArray) (h : letterM r = false) : signM st r s = { endM st with stop := (gs (st.stop, st.two, st.lines) r).1, two := (gs (st.stop, st.two, st.lines) r).2.1, lines := (gs (st.stop, st.two, st.lines) r).2.2 } := by
  unfold signM gs
  rw [h]
  simp only [Bool.false_eq_true, if_false]
  have e1 : (endM st).stop = st.stop := rfl
  have e2 : (endM st).two = st.two := rfl
  have e3 : (endM st).lines = st.lines := rfl
  split
  · simp only [e2]
  · split
    · simp only [e1, e2, e3]
    · split
      · simp only [← e1, ← e2, ← e3]
      · simp only [e1, e2]

/-! ### Side by side -/
def filt (xs : List Int) : List Int := xs.filter fun x => !zeroP x
theorem filt_append (a b : List Int) : filt (a ++ b) = filt a ++ filt b := List.filter_append ..
theorem filt_one (n : Nat) : filt [(n : Int)] = if 0 < n then [(n : Int)] else [] := by
  unfold filt zeroP
  by_cases h : 0 < n
  · rw [if_pos h]
    have : ¬ (n : Int) = 0 := by omega
    simp [this]; omega
  · rw [if_neg h]
    have : (n : Int) = 0 := by omega
    simp [this]
theorem dd_rising : ∀ xs : List Int, xs.Pairwise (· < ·) → dd xs = xs
  | [], _ => rfl
  | [x], _ => rfl
  | x :: y :: l, h => by
    have h1 := (List.pairwise_cons.1 h).1 y (by simp)
    rw [dd, if_neg (by omega), dd_rising (y :: l) (List.pairwise_cons.1 h).2]
theorem inner_rising {xs : List Int} (h : xs.Pairwise (· < ·)) : innerM xs = filt xs := dd_rising _ (h.filter _)
theorem rise_snoc {xs : List Int} {n : Int} (h : xs.Pairwise (· < ·)) (hn : ∀ k ∈ xs, k < n) : (xs ++ [n]).Pairwise (· < ·) := by
  rw [List.pairwise_append]
  refine ⟨h, List.pairwise_singleton _ _, fun a ha b hb => ?_⟩
  rw [List.mem_singleton] at hb
  rw [hb]; exact hn a ha
structure Side (l : L) (p : Sp) : Prop where
  W : l.W = p.W
  X : l.X.data.toList = p.X
  C : l.C = p.full
  rS : p.S.Pairwise (· < ·)
  rP : p.P.Pairwise (· < ·)
  none : p.X = [] → p.full = false ∧ gapF l.G = (p.stop, p.two, p.lines) ∧ l.S = filt p.S ∧ l.P = filt p.P ∧ (∀ k ∈ p.S, k < (p.W.length : Int)) ∧ ∀ k ∈ p.P, k < (p.W.length : Int)
  some : p.X ≠ [] → p.stop = false ∧ p.two = false ∧ p.lines = 0 ∧ filt p.S = (if 0 < p.W.length ∧ ((gapF l.G).1 || (gapF l.G).2.1) = true then l.S ++ [(p.W.length : Int)] else l.S) ∧ filt p.P = (if 0 < p.W.length ∧ (gapF l.G).2.1 = true then l.P ++ [(p.W.length : Int)] else l.P) ∧ (∀ k ∈ p.S, k ≤ (p.W.length : Int)) ∧ ∀ k ∈ p.P, k ≤ (p.W.length : Int)
theorem size_zero_iff (x : ByteArray) : x.size = 0 ↔ x.data.toList = [] := by
  have hl : x.data.toList.length = x.size := rfl
  constructor
  · intro h; exact List.eq_nil_of_length_eq_zero (by omega)
  · intro h; rw [h] at hl; simpa using hl.symm
theorem side_end {l : L} {p : Sp} (h : Side l p) : Side (doneM l) (endM p) ∧ (endM p).X = [] := by
  refine ⟨?_, rfl⟩
  by_cases hX : p.X = []
  · have hl : l.X.size = 0 := (size_zero_iff _).2 (h.X.trans hX)
    obtain ⟨h1, h2, h3, h4, h5, h6⟩ := h.none hX
    have e : endM p = p := by
      unfold endM
      rw [if_pos hX]
      cases p; simp_all
    rw [e, doneM, if_pos hl]; exact h
  · have hl : ¬ l.X.size = 0 := fun e => hX (h.X.symm.trans ((size_zero_iff _).1 e))
    obtain ⟨h1, h2, h3, h4, h5, h6, h7⟩ := h.some hX
    have hx : l.X = ⟨p.X.toArray⟩ := by
      apply ByteArray.ext
      rw [← h.X]
    have hw : l.W.length = p.W.length := by rw [h.W]
    rw [doneM, if_neg hl, endM, if_neg hX]
    refine ⟨by simp only [h.W, hx], rfl, rfl, h.rS, h.rP, fun _ => ⟨rfl, ?_, ?_, ?_, ?_, ?_⟩, fun hh => absurd rfl hh⟩
    · simp only [h1, h2, h3]; rfl
    · simp only [hw]; exact h4.symm
    · simp only [hw]; exact h5.symm
    · intro k hk
      have := h6 k hk
      simp only [List.length_append, List.length_singleton]; omega
    · intro k hk
      have := h7 k hk
      simp only [List.length_append, List.length_singleton]; omega
theorem side_other {l : L} {p : Sp} (h : Side l p) (s : ByteArray) (hs : ¬ s.size = 0) (hr : letterM (nextM s).1 = false) : Side { doneM l with G := catB (doneM l).G (takeB s (stepN s)) } (signM p (nextM s).1 (takeB s (stepN s))) := by
  obtain ⟨he, hx⟩ := side_end h
  rw [sign_other p _ _ hr]
  have e1 : (endM p).stop = p.stop := rfl
  have e2 : (endM p).two = p.two := rfl
  have e3 : (endM p).lines = p.lines := rfl
  rw [← e1, ← e2, ← e3]
  generalize endM p = q at *
  generalize doneM l = m at *
  obtain ⟨n1, n2, n3, n4, n5, n6⟩ := he.none hx
  refine ⟨he.W, he.X, he.C, he.rS, he.rP, fun _ => ⟨n1, ?_, n3, n4, n5, n6⟩, fun hh => absurd hx hh⟩
  have : gapF (catB m.G (takeB s (stepN s))) = (takeB s (stepN s)).data.toList.foldl gsB (gapF m.G) := by
    unfold gapF catB
    simp only [List.foldl_append]
  simp only [this, n2]
  exact gap_sign s hs _
theorem side_letter {l : L} {p : Sp} (h : Side l p) (s : ByteArray) (hs : ¬ s.size = 0) (hn : 0 < (nextM s).2) (hr : letterM (nextM s).1 = true) :
    Side (if 80 < l.X.size + (nextM s).2 ∨ l.C = true then { l with C := true } else { l with X := catB l.X (takeB s (nextM s).2) }) (signM p (nextM s).1 (takeB s (nextM s).2)) := by
  have hnl := next_le s
  have h4 : (nextM s).2 ≤ 4 := by
    rcases next_ok s hs with h1 | h1 | h1 <;> omega
  have hts : (takeB s (nextM s).2).size = (nextM s).2 := by rw [takeB_size]; omega
  have hcat : (catB l.X (takeB s (nextM s).2)).data.toList = p.X ++ (takeB s (nextM s).2).data.toList := by rw [← h.X]; rfl
  have htl : (takeB s (nextM s).2).data.toList ≠ [] := by
    intro e
    have := (size_zero_iff _).2 e
    omega
  have hxs : l.X.size = p.X.length := by rw [← h.X]; rfl
  by_cases hX : p.X = []
  · obtain ⟨n1, n2, n3, n4, n5, n6⟩ := h.none hX
    have hl0 : l.X.size = 0 := by rw [hxs, hX]; rfl
    have hC : l.C = false := h.C.trans n1
    rw [if_neg (by rw [hC]; simp; omega)]
    have e : signM p (nextM s).1 (takeB s (nextM s).2) = { beginM p with X := (beginM p).X ++ (takeB s (nextM s).2).data.toList, full := false } := by
      unfold signM
      rw [if_pos hr]
      simp only [if_pos hX]
      rw [if_neg]
      have b1 : (beginM p).full = p.full := rfl
      have b2 : (beginM p).X = p.X := rfl
      rw [b1, b2, n1, hX, hts]
      simp; omega
    rw [e]
    have b2 : (beginM p).X = p.X := rfl
    refine ⟨h.W, by rw [b2]; exact hcat, hC, ?_, ?_, fun hh => ?_, fun _ => ⟨rfl, rfl, rfl, ?_, ?_, ?_, ?_⟩⟩
    · show List.Pairwise (· < ·) (if p.stop || p.two then p.S ++ [(p.W.length : Int)] else p.S)
      split
      · exact rise_snoc h.rS n5
      · exact h.rS
    · show List.Pairwise (· < ·) (if p.two then p.P ++ [(p.W.length : Int)] else p.P)
      split
      · exact rise_snoc h.rP n6
      · exact h.rP
    · exact absurd (List.append_eq_nil_iff.1 hh).2 htl
    · show filt (if p.stop || p.two then p.S ++ [(p.W.length : Int)] else p.S) = _
      rw [n2, n3]
      simp only
      by_cases hc : (p.stop || p.two) = true
      · rw [if_pos hc, filt_append, filt_one]
        by_cases hw : 0 < p.W.length
        · rw [if_pos hw, if_pos ⟨hw, hc⟩]; rfl
        · rw [if_neg hw, if_neg (fun x => hw x.1), List.append_nil]
      · rw [if_neg hc, if_neg (fun x => hc x.2)]
    · show filt (if p.two then p.P ++ [(p.W.length : Int)] else p.P) = _
      rw [n2, n4]
      simp only
      by_cases hc : p.two = true
      · rw [if_pos hc, filt_append, filt_one]
        by_cases hw : 0 < p.W.length
        · rw [if_pos hw, if_pos ⟨hw, hc⟩]; rfl
        · rw [if_neg hw, if_neg (fun x => hw x.1), List.append_nil]
      · rw [if_neg hc, if_neg (fun x => hc x.2)]
    · intro k hk
      have hk : k ∈ (if p.stop || p.two then p.S ++ [(p.W.length : Int)] else p.S) := hk
      show k ≤ (p.W.length : Int)
      split at hk
      · rcases List.mem_append.1 hk with hk | hk
        · have := n5 k hk; omega
        · rw [List.mem_singleton.1 hk]; omega
      · have := n5 k hk; omega
    · intro k hk
      have hk : k ∈ (if p.two then p.P ++ [(p.W.length : Int)] else p.P) := hk
      show k ≤ (p.W.length : Int)
      split at hk
      · rcases List.mem_append.1 hk with hk | hk
        · have := n6 k hk; omega
        · rw [List.mem_singleton.1 hk]; omega
      · have := n6 k hk; omega
  · obtain ⟨s1, s2, s3, s4, s5, s6, s7⟩ := h.some hX
    unfold signM
    rw [if_pos hr]
    simp only [if_neg hX]
    by_cases hb : 80 < l.X.size + (nextM s).2 ∨ l.C = true
    · rw [if_pos hb, if_pos (by rw [hts, ← h.C]; rcases hb with hb | hb <;> simp [hb]; right; omega)]
      exact ⟨h.W, h.X, rfl, h.rS, h.rP, fun hh => absurd hh hX, fun _ => ⟨s1, s2, s3, s4, s5, s6, s7⟩⟩
    · have hC : l.C = false := by
        cases hc : l.C
        · rfl
        · exact absurd (.inr hc) hb
      rw [if_neg hb, if_neg (by rw [hts, ← h.C, hC]; simp; have := fun x => hb (.inl x); omega)]
      exact ⟨h.W, hcat, hC, h.rS, h.rP, fun hh => absurd (List.append_eq_nil_iff.1 hh).2 htl, fun _ => ⟨s1, s2, s3, s4, s5, s6, s7⟩⟩
theorem side_go : ∀ (f : Nat) (l : L) (p : Sp) (s : ByteArray), s.size ≤ f → Side l p → Side (lawGo s.size l s) (goS s.size p s)
  | 0, l, p, s, hf, h => by
    rw [show s.size = 0 by omega]; exact h
  | f + 1, l, p, s, hf, h => by
    by_cases h0 : s.size = 0
    · rw [h0]; exact h
    have hle := step_le s (by omega)
    by_cases hl : 0 < (nextM s).2 ∧ letterM (nextM s).1 = true
    · have hst : stepN s = (nextM s).2 := by unfold stepN; omega
      rw [lawGo_letter l s h0 hl, goS_step p s h0, hst]
      exact side_go f _ _ _ (by rw [dropB_size]; omega) (side_letter h s h0 hl.1 hl.2)
    · have hr : letterM (nextM s).1 = false := by
        rcases Nat.lt_or_ge 0 (nextM s).2 with hn | hn
        · cases hc : letterM (nextM s).1
          · rfl
          · exact absurd ⟨hn, hc⟩ hl
        · rcases next_ok s h0 with ⟨_, h2, _⟩ | h1 | h1
          · rw [h2]; decide
          · omega
          · omega
      rw [lawGo_other l s h0 hl, goS_step p s h0]
      exact side_go f _ _ _ (by rw [dropB_size]; omega) (side_other h s h0 hr)
theorem side_start : Side l0 sp0 :=
  ⟨rfl, rfl, rfl, List.Pairwise.nil, List.Pairwise.nil, fun _ => ⟨rfl, rfl, rfl, rfl, fun k hk => by simp [sp0] at hk, fun k hk => by simp [sp0] at hk⟩, fun h => absurd rfl h⟩
theorem law_eq (s : ByteArray) : (lawM s).W = (splitM s).W ∧ (lawM s).S = innerM (splitM s).S ∧ (lawM s).P = innerM (splitM s).P := by
  obtain ⟨h, hx⟩ := side_end (side_go s.size l0 sp0 s (Nat.le_refl _) side_start)
  obtain ⟨_, _, h3, h4, _, _⟩ := h.none hx
  exact ⟨h.W, h3.trans (inner_rising h.rS).symm, h4.trans (inner_rising h.rP).symm⟩

theorem goS_small : ∀ (f k : Nat) (st : Sp) (s : ByteArray), s.size ≤ f → Small k st → Small (k + s.size) (goS s.size st s)
  | 0, k, st, s, hf, h => by
    rw [show s.size = 0 by omega]; exact h
  | f + 1, k, st, s, hf, h => by
    by_cases h0 : s.size = 0
    · rw [h0]; exact h
    have hle := step_le s (by omega)
    rw [goS_step st s h0]
    have h1 := small_sign h (nextM s).1 (takeB s (stepN s)) (by rw [takeB_size]; omega)
    have h2 := goS_small f _ _ (dropB s (stepN s)) (by rw [dropB_size]; omega) h1
    rw [takeB_size, show k + min (stepN s) s.size + (dropB s (stepN s)).size = k + s.size by rw [dropB_size]; omega] at h2
    exact h2
theorem split_len (s : ByteArray) : (splitM s).W.length ≤ s.size + 1 ∧ (innerM (splitM s).S).length ≤ s.size ∧ (innerM (splitM s).P).length ≤ s.size := by
  obtain ⟨h1, h2, h3, _, _, _⟩ := goS_small s.size 0 sp0 s (Nat.le_refl _) ⟨Nat.le_refl 0, Nat.le_refl 0, Nat.le_refl 0, Nat.le_refl 0, Int.le_refl 0, Int.le_refl 0⟩
  rw [Nat.zero_add] at h1 h2 h3
  have hi : ∀ xs : List Int, (innerM xs).length ≤ xs.length := fun xs => Nat.le_trans (dd_length_le _) (List.length_filter_le _ _)
  refine ⟨?_, Nat.le_trans (hi _) h2, Nat.le_trans (hi _) h3⟩
  show (if (goS s.size sp0 s).X = [] then (goS s.size sp0 s).W else (goS s.size sp0 s).W ++ [_]).length ≤ _
  split
  · omega
  · rw [List.length_append, List.length_singleton]; omega
end Go.Ab.Ytnemoodjbekngaa
