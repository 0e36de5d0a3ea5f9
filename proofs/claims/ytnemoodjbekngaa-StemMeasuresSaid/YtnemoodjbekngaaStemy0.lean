/-
  What vowels, measures and the ends of texts come to. Conditions: texts of at most 2^47 bytes.
-/
import Derived.Test.YtnemoodjbekngaaStemx4
import Derived.Lib.IndexBytes
import Derived.KernelRfl
namespace Go.Proofs.Ytnemoodjbekngaa.Pure
namespace StemAid
open Go.RowKit Go.Proofs.Ytnemoodjbekngaa.PStem Go.Proofs.YtnemoodjbekngaaW.PrintWords Go.Proofs.YtnemoodjbekngaaW.PrintLast
/-- The bytes of a text. -/
def lst (w : ByteArray) : List UInt8 := w.data.toList
theorem lst_len (w : ByteArray) : (lst w).length = w.size := by simp [lst]
theorem lst_take (w : ByteArray) (n : Nat) : lst (w.extract 0 n) = (lst w).take n := by simp [lst]
theorem lst_app (a b : ByteArray) : lst (a ++ b) = lst a ++ lst b := by simp [lst]
theorem lst_inj {a b : ByteArray} (h : lst a = lst b) : a = b := by
  cases a with | mk a => cases b with | mk b => simp [lst] at h; rw [h]
theorem bt_lst (w : ByteArray) (i : Nat) (h : i < w.size) : bt w (i : Int) = (((lst w)[i]'(by rw [lst_len]; exact h)).toNat : Int) := by
  simp [bt, h, lst]
  rfl
theorem wrap_id {x : Int} (h0 : -9223372036854775808 ≤ x) (h1 : x ≤ 9223372036854775807) : wrap64 x = x := by
  unfold wrap64; omega
/-- Vowels, from the left. -/
def isv (c : Int) : Bool := c == 97 || c == 101 || c == 105 || c == 111 || c == 117
def vow (w : ByteArray) : Nat → Bool
  | 0 => isv (bt w 0)
  | i + 1 => isv (bt w ((i + 1 : Nat) : Int)) || (bt w ((i + 1 : Nat) : Int) == 121 && !vow w i)
theorem vowel_ev (w : ByteArray) (hs : w.size ≤ 140737488351232) (i : Nat) (h : i < w.size) : Ev (fun k => stem_vowel.f k w (i : Int)) (vow w i) := by
  induction i with
  | zero =>
    refine ⟨2, fun k hk => ?_⟩
    obtain ⟨k, rfl⟩ : ∃ m, k = m + 2 := ⟨k - 2, by omega⟩
    simp only [stem_vowel.f, stem_vowel.j0]
    rw [if_pos (by omega), if_pos (by omega)]
    simp only [vow, isv]
    have e0 : ((0 : Nat) : Int) = 0 := rfl
    rw [e0]
    generalize bt w 0 = c
    by_cases h1 : c = 97
    · subst h1; simp
    by_cases h2 : c = 101
    · subst h2; simp
    by_cases h3 : c = 105
    · subst h3; simp
    by_cases h4 : c = 111
    · subst h4; simp
    by_cases h5 : c = 117
    · subst h5; simp
    simp [h1, h2, h3, h4, h5]
  | succ i ih =>
    obtain ⟨K, hK⟩ := ih (by omega)
    refine ⟨K + 2, fun k hk => ?_⟩
    obtain ⟨k, rfl⟩ : ∃ m, k = m + 2 := ⟨k - 2, by omega⟩
    have hrec := hK k (by omega)
    simp only [] at hrec
    simp only [stem_vowel.f, stem_vowel.j0]
    rw [if_pos (by omega), if_pos (by omega)]
    have hw : wrap64 (((i + 1 : Nat) : Int) - 1) = (i : Int) := by rw [wrap_id (by omega) (by omega)]; omega
    have hp : ((i + 1 : Nat) : Int) > 0 := by omega
    rw [hw, hrec]
    simp only [vow, isv, if_pos hp, Option.bind_some]
    generalize bt w ((i + 1 : Nat) : Int) = c
    generalize vow w i = v
    by_cases h1 : c = 97
    · subst h1; simp
    by_cases h2 : c = 101
    · subst h2; simp
    by_cases h3 : c = 105
    · subst h3; simp
    by_cases h4 : c = 111
    · subst h4; simp
    by_cases h5 : c = 117
    · subst h5; simp
    by_cases h6 : c = 121
    · subst h6; simp
    simp [h1, h2, h3, h4, h5, h6]
/-- How many places from 1 on, ahead of j, have none behind a vowel. -/
def measTo (w : ByteArray) : Nat → Nat
  | 0 => 0
  | 1 => 0
  | j + 2 => measTo w (j + 1) + (if vow w j = true ∧ vow w (j + 1) = false then 1 else 0)
theorem measTo_two (w : ByteArray) : ∀ j, 2 * measTo w (j + 1) + (if vow w j = true then 1 else 0) ≤ j + 1
  | 0 => by simp [measTo]; split <;> omega
  | j + 1 => by
    have := measTo_two w j
    simp only [measTo]
    by_cases h1 : vow w j = true <;> by_cases h2 : vow w (j + 1) = true <;> simp [h1, h2] at this ⊢ <;> omega
theorem measTo_le (w : ByteArray) (j : Nat) : 2 * measTo w j ≤ j := by
  cases j with
  | zero => simp [measTo]
  | succ j => have := measTo_two w j; split at this <;> omega
theorem meas_loop (w : ByteArray) (hs : w.size ≤ 140737488351232) (d : Nat) : ∀ i : Nat, 1 ≤ i → i ≤ w.size → w.size - i = d →
    Ev (fun k => stem_Measure.l0 k w (measTo w i : Int) (i : Int)) (measTo w w.size : Int) := by
  induction d with
  | zero =>
    intro i h1 hi hd
    obtain rfl : i = w.size := by omega
    refine ⟨1, fun k hk => ?_⟩
    obtain ⟨k, rfl⟩ : ∃ m, k = m + 1 := ⟨k - 1, by omega⟩
    simp only [stem_Measure.l0]
    rw [if_neg (by omega)]
  | succ d ih =>
    intro i h1 hi hd
    obtain ⟨i, rfl⟩ : ∃ j, i = j + 1 := ⟨i - 1, by omega⟩
    have hlt : ((i + 1 : Nat) : Int) < (w.size : Int) := by omega
    have hw : wrap64 (((i + 1 : Nat) : Int) - 1) = (i : Int) := by rw [wrap_id (by omega) (by omega)]; omega
    have hw2 : wrap64 (((i + 1 : Nat) : Int) + 1) = ((i + 2 : Nat) : Int) := by rw [wrap_id (by omega) (by omega)]; omega
    have hw3' : ∀ m : Nat, 2 * m ≤ i + 1 → wrap64 ((m : Int) + 1) = ((m + 1 : Nat) : Int) := fun m hm => by rw [wrap_id (by omega) (by omega)]; omega
    have hw3 := hw3' _ (measTo_le w (i + 1))
    clear hw3'
    obtain ⟨K1, e1⟩ := vowel_ev w hs i (by omega)
    obtain ⟨K2, e2⟩ := vowel_ev w hs (i + 1) (by omega)
    obtain ⟨K3, e3⟩ := ih (i + 2) (by omega) (by omega) (by omega)
    refine ⟨K1 + K2 + K3 + 1, fun k hk => ?_⟩
    obtain ⟨k, rfl⟩ : ∃ m, k = m + 1 := ⟨k - 1, by omega⟩
    have e1 := e1 k (by omega)
    have e2 := e2 k (by omega)
    have e3 := e3 k (by omega)
    simp only [] at e1 e2 e3
    simp only [stem_Measure.l0]
    rw [if_pos hlt, hw, hw2, hw3, e1, e2]
    simp only [Option.bind_some]
    by_cases h1 : vow w i = true
    · by_cases h2 : vow w (i + 1) = true
      · have hm : measTo w (i + 2) = measTo w (i + 1) := by simp [measTo, h1, h2]
        rw [if_pos h1, if_pos h2, ← hm]; exact e3
      · have hm : measTo w (i + 2) = measTo w (i + 1) + 1 := by simp [measTo, h1, h2]
        rw [if_pos h1, if_neg h2, ← hm]; exact e3
    · have hm : measTo w (i + 2) = measTo w (i + 1) := by simp [measTo, h1]
      rw [if_neg h1, ← hm]; exact e3
theorem meas_ev (w : ByteArray) (hs : w.size ≤ 140737488351232) : Ev (fun k => stem_Measure.f k w) (measTo w w.size : Int) := by
  by_cases h : w.size = 0
  · refine ⟨1, fun k hk => ?_⟩
    obtain ⟨k, rfl⟩ : ∃ m, k = m + 1 := ⟨k - 1, by omega⟩
    simp only [stem_Measure.f, stem_Measure.l0, h]
    rw [if_neg (by omega)]; rfl
  · have := meas_loop w hs (w.size - 1) 1 (by omega) (by omega) rfl
    exact this
theorem head_ok : Ev (fun k => catchwordlaw03_head.f k) true := by
  refine ⟨300, fun k hk => ?_⟩
  have h : catchwordlaw03_head.f 300 = some true := by decide +kernel
  exact at_rounds (catchwordlaw03_head.mono) hk h
end StemAid
end Go.Proofs.Ytnemoodjbekngaa.Pure
