/-
  What utf.Letter computes. No conditions.
-/
import Derived.Test.YtnemoodjbekngaaAbFacts
import Derived.Test.YtnemoodjbekngaaAbOwn
namespace Go.Ab.Ytnemoodjbekngaa
open Go Go.Ab Go.Proofs
set_option maxHeartbeats 4000000
set_option maxRecDepth 100000
attribute [local go_sem] M_seq M_region M_op M_opg ev_move ev_assign ev_bin ev_un ev_pick ev_index ev_call eval_tmp eval_const eval_func MX_val M_ops_nil M_skip put_some put_none M_block M_loop M_cond get_put_eq get_put_ne Fr.n_set bin_lss bin_eql bin_neq bin_geq bin_leq bin_gtr MCond_true MCond_false M_ret M_exit M_blk M_out_blk M_out_other M_out_code yv_some yb_bool yb_undef Bool.not_true Bool.not_false MG_on MG_tf MG_ft MG_none evPick_true evPick_false un_not List.getElem?_cons_succ List.getElem?_cons_zero Option.bind_some M_end mq_ret0 mq_ret1 mq_ret2 mq_ret3 mq_end0 mq_end1 mq_end2

def letterM (r : Int) : Bool :=
  if r < 128 then (decide (r ≥ 48) && decide (r ≤ 57)) || (decide (r ≥ 65) && decide (r ≤ 90)) || (decide (r ≥ 97) && decide (r ≤ 122))
  else if r < 192 then r == 170 || r == 181 || r == 186
  else if r == 215 || r == 247 then false
  else !((decide (r ≥ 8192) && decide (r ≤ 8303)) || (decide (r ≥ 12288) && decide (r ≤ 12292)) || (decide (r ≥ 12296) && decide (r ≤ 12320)))
theorem letter_run (r : Int) (H : Heap) : CallsA Try.prog noprim 22 #[.int .i32 r] H fun v H' => v = .bool (letterM r) ∧ H' = H := by
  refine calls_go (fn := Try.f22) (l := [.int .i32 r]) rfl Try.func22 rfl rfl (rs := [.tmp 2]) rfl rfl ?_
  intro fr hn hg
  have g0 := hg 0 rfl
  clear hg
  repeat' (first | refine mcond_cases (fun _ => ?_) (fun _ => ?_) | refine mg_t (fun _ => ?_) (fun _ => ?_) | refine mg_f (fun _ => ?_) (fun _ => ?_) | (simp (decide := true) only [go_sem, hn, g0, List.getElem_cons_zero, *]))
  all_goals (refine ⟨?_, trivial⟩; clear g0 hn; simp_all [letterM]; try omega)
  all_goals (rw [if_neg (by omega)]; first | (intro hh; omega) | (rw [Bool.eq_iff_iff]; simp; done) | (rw [Bool.eq_iff_iff]; simp; omega) | simp_all | trace_state)

theorem str_empty (s : ByteArray) : decide (s = ⟨#[]⟩) = decide (s.size = 0) := by
  rw [decide_eq_decide]
  cases s with | mk a =>
  simp [ByteArray.ext_iff, ByteArray.size]
/-- Is a byte one of those behind a sign's first? -/
def contB (b : UInt8) : Bool := decide (iand .u8 (b.toNat : Int) 192 = 128)
def firstM (c : Int) (m : Int) : Int := IntKind.i32.wrap (iand .u8 c m)
def addB (r : Int) (b : UInt8) : Int := ior .i32 (ishl .i32 r 6) (firstM b.toNat 63)
def tailM (s : ByteArray) : Nat → Nat → Int → Option Int
  | 0, _, r => some r
  | m + 1, k, r => if contB (btAt s k) = true then tailM s m (k + 1) (addB r (btAt s k)) else none
def finM (low r : Int) (n : Nat) : Int × Nat := if r < low ∨ (55296 ≤ r ∧ r ≤ 57343) ∨ 1114111 < r then (0, 0) else (r, n)
def goM (s : ByteArray) (n : Nat) (low r : Int) : Int × Nat :=
  if s.size < n then (0, 0) else match tailM s (n - 1) 1 r with
    | none => (0, 0)
    | some r => finM low r n
def nextM (s : ByteArray) : Int × Nat :=
  if s.size = 0 then (0, 0) else
  if ((btAt s 0).toNat : Int) < 128 then (IntKind.i32.wrap (btAt s 0).toNat, 1) else
  if 194 ≤ ((btAt s 0).toNat : Int) ∧ ((btAt s 0).toNat : Int) ≤ 223 then goM s 2 128 (firstM (btAt s 0).toNat 31) else
  if 224 ≤ ((btAt s 0).toNat : Int) ∧ ((btAt s 0).toNat : Int) ≤ 239 then goM s 3 2048 (firstM (btAt s 0).toNat 15) else
  if 240 ≤ ((btAt s 0).toNat : Int) ∧ ((btAt s 0).toNat : Int) ≤ 244 then goM s 4 65536 (firstM (btAt s 0).toNat 7) else (0, 0)
end Go.Ab.Ytnemoodjbekngaa
