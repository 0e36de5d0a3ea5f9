/-
  Signs one by one: a sign is told by its own bytes; texts put together. No conditions.
-/
import Derived.Test.YtnemoodjbekngaaTokPure
namespace Go.Ab.Ytnemoodjbekngaa
open Go Go.Ab Go.Proofs
set_option maxHeartbeats 4000000
set_option maxRecDepth 100000
set_option linter.unusedSimpArgs false
set_option linter.unusedVariables false
attribute [local go_sem] M_seq M_region M_op M_opg ev_move ev_assign ev_bin ev_un ev_pick ev_index ev_call ev_conv ev_len ev_extract ev_fieldAddr ev_load ev_store ev_nilCheck ev_box ev_slice ev_append ev_indexAddr eval_tmp eval_const eval_func MX_val M_ops_nil M_skip put_some put_none M_block M_loop M_cond get_put_eq get_put_ne Fr.n_set bin_lss bin_eql bin_neq bin_geq bin_leq bin_gtr bin_add bin_sub bin_and bin_or bin_shl bin_seq bin_sne MCond_true MCond_false M_ret M_exit M_blk M_out_blk M_out_other M_out_code M_out_loop yv_some yb_bool yb_undef Bool.not_true Bool.not_false MG_on MG_tf MG_ft MG_none evPick_true evPick_false un_not List.getElem?_cons_succ List.getElem?_cons_zero Option.bind_some M_end mq_ret0 mq_ret1 mq_ret2 mq_ret3 mq_end0 mq_end1 mq_end2 evO_some evH_some nilc_ptr rd1_row wr1_row ov_bool ov_int ov_float ov_string ov_pointer ov_slice ov_map ov_func List.set_cons_zero List.set_cons_succ Nat.zero_add Option.map_some Option.map_none fillA_nil evExtract_tuple List.append_nil List.nil_append List.cons_append Heap.n_push Heap.n_put mq_retc RC_some rdN_row wrN_row takeN_zero takeN_succ setN_nil setN_cons List.drop_zero List.drop_succ_cons List.length_cons List.length_nil ev_max evMM_max ev_buildSlice ev_makeSlice ev_alloc ev_build ptrTo Option.isSome_some evCall_plain evCall_captured ev_clear ev_makeFunc List.map_toArray List.map_cons List.map_nil List.toList_toArray

theorem tail_same (s t : ByteArray) : ∀ (m k : Nat) (r : Int), (∀ j, k ≤ j → j < k + m → btAt t j = btAt s j) → tailM t m k r = tailM s m k r
  | 0, _, _, _ => rfl
  | m + 1, k, r, h => by
    rw [tailM, tailM, h k (Nat.le_refl _) (by omega)]
    split
    · exact tail_same s t m (k + 1) _ fun j h1 h2 => h j (by omega) (by omega)
    · rfl
theorem goM_same (s t : ByteArray) (n : Nat) (low r : Int) (hn : 1 ≤ n) (hs : n ≤ s.size) (ht : n ≤ t.size) (h : ∀ j, j < n → btAt t j = btAt s j) : goM t n low r = goM s n low r := by
  unfold goM
  rw [if_neg (by omega), if_neg (by omega), tail_same s t (n - 1) 1 r fun j h1 h2 => h j (by omega)]
theorem goM_pos {s : ByteArray} {n : Nat} {low r : Int} (h : 0 < (goM s n low r).2) : (goM s n low r).2 = n ∧ n ≤ s.size := by
  have := goM_le s n low r
  rcases this with ⟨h1, h2 | h2⟩ <;> omega
/-- A sign is told by its own bytes. -/
theorem next_local (s t : ByteArray) (h0 : 0 < (nextM s).2) (ht : (nextM s).2 ≤ t.size) (h : ∀ j, j < (nextM s).2 → btAt t j = btAt s j) : nextM t = nextM s := by
  have hs0 : ¬ s.size = 0 := fun e => by simp [nextM, e] at h0
  have ht0 : ¬ t.size = 0 := by omega
  have hb := h 0 h0
  revert h0 ht h
  unfold nextM
  rw [if_neg hs0, if_neg ht0, hb]
  split
  · intro _ _ _; rfl
  · split
    · intro h0 ht h
      obtain ⟨h1, h2⟩ := goM_pos h0
      exact goM_same s t _ _ _ (by omega) h2 (by omega) fun j hj => h j (by omega)
    · split
      · intro h0 ht h
        obtain ⟨h1, h2⟩ := goM_pos h0
        exact goM_same s t _ _ _ (by omega) h2 (by omega) fun j hj => h j (by omega)
      · split
        · intro h0 ht h
          obtain ⟨h1, h2⟩ := goM_pos h0
          exact goM_same s t _ _ _ (by omega) h2 (by omega) fun j hj => h j (by omega)
        · intro h0; simp at h0
theorem goM_none {s t : ByteArray} {n : Nat} {low r : Int} (hn : 2 ≤ n) (h : (goM s n low r).2 = 0) (hst : s.size ≤ t.size) (hb : ∀ j, j < s.size → btAt t j = btAt s j) (hg : s.size < t.size → (btAt t s.size).toNat < 128) (hs : 0 < s.size) : goM t n low r = (0, 0) := by
  by_cases h1 : n ≤ s.size
  · rw [goM_same s t n low r (by omega) h1 (by omega) fun j hj => hb j (by omega)]
    unfold goM at h ⊢
    rw [if_neg (by omega)] at h ⊢
    cases ht : tailM s (n - 1) 1 r with
    | none => rfl
    | some r1 =>
      rw [ht] at h
      simp only [finM] at h ⊢
      split
      · rfl
      · rename_i hf; rw [if_neg hf] at h; simp only at h; omega
  · unfold goM
    split
    · rfl
    · rename_i h2
      cases ht : tailM t (n - 1) 1 r with
      | none => rfl
      | some r1 =>
        exfalso
        have := tail_high t _ _ _ _ ht s.size (by omega) (by omega)
        have := hg (by omega)
        omega
/-- Where a text ends within a sign, a sign of the first 128 behind it makes none. -/
theorem next_none (s t : ByteArray) (hs : 0 < s.size) (h0 : (nextM s).2 = 0) (hst : s.size ≤ t.size) (hb : ∀ j, j < s.size → btAt t j = btAt s j) (hg : s.size < t.size → (btAt t s.size).toNat < 128) : nextM t = (0, 0) := by
  have hs0 : ¬ s.size = 0 := by omega
  have ht0 : ¬ t.size = 0 := by omega
  have hb0 := hb 0 hs
  revert h0
  unfold nextM
  rw [if_neg hs0, if_neg ht0, hb0]
  split
  · intro h; simp at h
  · split
    · intro h; exact goM_none (by omega) h hst hb hg hs
    · split
      · intro h; exact goM_none (by omega) h hst hb hg hs
      · split
        · intro h; exact goM_none (by omega) h hst hb hg hs
        · intro _; rfl

/-! ### Texts as lists -/
def Bt (l : List UInt8) : ByteArray := ⟨l.toArray⟩
theorem bt_list (l : List UInt8) : (Bt l).data.toList = l := rfl
theorem bt_of (s : ByteArray) : Bt s.data.toList = s := by
  apply ByteArray.ext; simp [Bt]
theorem bt_size (l : List UInt8) : (Bt l).size = l.length := by simp [Bt, ByteArray.size]
theorem bt_ext {a b : ByteArray} (h : a.data.toList = b.data.toList) : a = b := ByteArray.ext (Array.toList_inj.1 h)
theorem bt_take (l : List UInt8) (n : Nat) : takeB (Bt l) n = Bt (l.take n) := bt_ext (by rw [takeB_list]; rfl)
theorem bt_drop (l : List UInt8) (n : Nat) : dropB (Bt l) n = Bt (l.drop n) := bt_ext (by rw [dropB_list]; rfl)
theorem bt_cat (a b : List UInt8) : catB (Bt a) (Bt b) = Bt (a ++ b) := rfl
theorem bt_at (l : List UInt8) (j : Nat) : btAt (Bt l) j = l.getD j 0 := rfl
/-- The splitter over a list of bytes. -/
def gl (st : Sp) (l : List UInt8) : Sp := goS l.length st (Bt l)
theorem gl_nil (st : Sp) : gl st [] = st := rfl
theorem gl_eq (st : Sp) (s : ByteArray) : goS s.size st s = gl st s.data.toList := by
  unfold gl; rw [bt_of]; rfl
theorem gl_step (st : Sp) (l : List UInt8) (h : l ≠ []) : gl st l = gl (signM st (nextM (Bt l)).1 (Bt (l.take (stepN (Bt l))))) (l.drop (stepN (Bt l))) := by
  have h0 : ¬ (Bt l).size = 0 := by rw [bt_size]; intro e; exact h (List.eq_nil_of_length_eq_zero e)
  have := goS_step st (Bt l) h0
  rw [bt_size, bt_take, bt_drop, bt_size] at this
  exact this
theorem at_app (c l : List UInt8) (j : Nat) (h : j < c.length) : btAt (Bt (c ++ l)) j = btAt (Bt c) j := by
  rw [bt_at, bt_at, List.getD_eq_getElem?_getD, List.getD_eq_getElem?_getD, List.getElem?_append_left h]
/-- A sign at the head of a text, by its own bytes. -/
theorem gl_sign (st : Sp) (c l : List UInt8) (h : (nextM (Bt c)).2 = c.length) (hc : c ≠ []) : gl st (c ++ l) = gl (signM st (nextM (Bt c)).1 (Bt c)) l := by
  have hl : 0 < c.length := List.length_pos_iff.2 hc
  have e : nextM (Bt (c ++ l)) = nextM (Bt c) := next_local (Bt c) (Bt (c ++ l)) (by omega) (by rw [bt_size, List.length_append]; omega) fun j hj => at_app c l j (by omega)
  have es : stepN (Bt (c ++ l)) = c.length := by unfold stepN; rw [e]; omega
  rw [gl_step st (c ++ l) (by simp [hc]), es, e, List.take_left, List.drop_left]
theorem next_ascii (b : UInt8) (h : b.toNat < 128) : nextM (Bt [b]) = ((b.toNat : Int), 1) := by
  unfold nextM
  have h1 : btAt (Bt [b]) 0 = b := rfl
  have h2 : ¬ (Bt [b]).size = 0 := by rw [bt_size]; simp
  rw [if_neg h2, h1, if_pos (by omega), w32 (by omega) (by omega)]
theorem gl_ascii (st : Sp) (b : UInt8) (l : List UInt8) (h : b.toNat < 128) : gl st (b :: l) = gl (signM st b.toNat (Bt [b])) l := by
  have := gl_sign st [b] l (by rw [next_ascii b h]; rfl) (by simp)
  rw [next_ascii b h] at this
  exact this
/-- A text ahead of another one that begins with a sign of the first 128. -/
theorem gl_append : ∀ (f : Nat) (st : Sp) (a g : List UInt8), a.length ≤ f → (∀ b ∈ g.head?, b.toNat < 128) → gl st (a ++ g) = gl (gl st a) g
  | _, st, [], g, _, _ => rfl
  | 0, st, b :: a, g, h, _ => by simp at h
  | f + 1, st, b :: a, g, hf, hg => by
    have hne : ¬ (Bt (b :: a)).size = 0 := by rw [bt_size]; simp
    have hle := step_le (Bt (b :: a)) (by omega)
    rw [bt_size] at hle
    have e : nextM (Bt (b :: a ++ g)) = nextM (Bt (b :: a)) := by
      by_cases hn : 0 < (nextM (Bt (b :: a))).2
      · have hnl := next_le (Bt (b :: a))
        rw [bt_size] at hnl
        exact next_local (Bt (b :: a)) _ hn (by rw [bt_size, List.length_append]; omega) fun j hj => at_app _ _ j (by omega)
      · have h00 : (nextM (Bt (b :: a))).2 = 0 := by omega
        have h01 : nextM (Bt (b :: a)) = (0, 0) := by
          rcases next_ok _ hne with ⟨h1, h2, _⟩ | h1 | h1
          · exact Prod.ext h2 h1
          · omega
          · omega
        rw [h01]
        refine next_none (Bt (b :: a)) _ (by omega) h00 (by rw [bt_size, bt_size, List.length_append]; omega) (fun j hj => at_app _ _ j (by rw [bt_size] at hj; exact hj)) fun hlt => ?_
        rw [bt_size, bt_size, List.length_append] at hlt
        rw [bt_size, bt_at, List.getD_eq_getElem?_getD, List.getElem?_append_right (Nat.le_refl _), Nat.sub_self]
        cases g with
        | nil => simp at hlt
        | cons x g => exact hg x (by simp)
    have es : stepN (Bt (b :: a ++ g)) = stepN (Bt (b :: a)) := by unfold stepN; rw [e]
    rw [gl_step st (b :: a ++ g) (by simp), gl_step st (b :: a) (by simp), es, e, List.take_append_of_le_length hle.1, List.drop_append_of_le_length hle.1]
    exact gl_append f _ _ g (by rw [List.length_drop]; simp only [List.length_cons] at hf hle ⊢; omega) hg
end Go.Ab.Ytnemoodjbekngaa
