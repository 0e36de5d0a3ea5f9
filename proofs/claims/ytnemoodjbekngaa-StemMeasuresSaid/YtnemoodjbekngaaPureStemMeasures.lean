/-
  For each text of at most 2^47 bytes and each byte the printed function of StemMeasures answers true. Conditions: none beyond the bounds that the statement itself has.
-/
import Derived.Test.YtnemoodjbekngaaStemMeasuresx6
import Derived.Test.YtnemoodjbekngaaStemy0
namespace Go.Proofs.Ytnemoodjbekngaa.Pure
namespace StemAid
open Go.RowKit Go.Proofs.Ytnemoodjbekngaa.PStem Go.Proofs.YtnemoodjbekngaaW.PrintWords Go.Proofs.YtnemoodjbekngaaW.PrintLast
/-- The law's own list of vowels, up to a place. -/
def vowsTo (w : ByteArray) (n : Nat) : List Bool := (List.range n).map (vow w)
theorem vowsTo_succ (w : ByteArray) (n : Nat) : vowsTo w (n + 1) = vowsTo w n ++ [vow w n] := by simp [vowsTo, List.range_succ]
theorem vowsTo_len (w : ByteArray) (n : Nat) : (vowsTo w n).length = n := by simp [vowsTo]
theorem vowsTo_get (w : ByteArray) (n i : Nat) (h : i < n) : rdOf false (vowsTo w n) (i : Int) = vow w i := by
  simp [rdOf, vowsTo, List.getD_eq_getElem?_getD, h]
theorem vowels_ev (w : ByteArray) (hs : w.size ≤ 1000) : Ev (fun k => catchwordlaw03_vowels.f k w) (vowsTo w w.size) := by
  suffices H : ∀ d i : Nat, i ≤ w.size → w.size - i = d → Ev (fun k => catchwordlaw03_vowels.l0 k w (vowsTo w i) (i : Int)) (vowsTo w w.size) from H w.size 0 (by omega) (by omega)
  intro d
  induction d with
  | zero =>
    intro i hi hd
    obtain rfl : i = w.size := by omega
    refine ⟨1, fun k hk => ?_⟩
    obtain ⟨k, rfl⟩ : ∃ m, k = m + 1 := ⟨k - 1, by omega⟩
    simp only [catchwordlaw03_vowels.l0]
    rw [if_neg (by omega)]
  | succ d ih =>
    intro i hi hd
    refine Ev.step (fun k => ?_) (ih (i + 1) (by omega) (by omega))
    have hw : wrap64 ((i : Int) + 1) = ((i + 1 : Nat) : Int) := by rw [wrap_id (by omega) (by omega)]; omega
    have hl : (vowsTo w i).length < 140737488355328 := by rw [vowsTo_len]; omega
    simp only [catchwordlaw03_vowels.l0, hw, if_pos hl]
    rw [if_pos (by omega : (i : Int) < (w.size : Int)), if_pos (by omega : 0 ≤ (i : Int)), vowsTo_succ]
    cases i with
    | zero =>
      simp only [vow, isv]
      have e0 : ((0 : Nat) : Int) = 0 := rfl
      rw [e0]
      generalize bt w 0 = c
      by_cases h1 : c = 97
      · subst h1; simp
      by_cases h2 : c = 101
      · subst h2; simp
      by_cases h3 : c = 105
      · subst h3; simp
      by_cases h4 : c = 111
      · subst h4; simp
      by_cases h6 : c = 121
      · subst h6; simp
      have b1 : (c == 97) = false := by simpa using h1
      have b2 : (c == 101) = false := by simpa using h2
      have b3 : (c == 105) = false := by simpa using h3
      have b4 : (c == 111) = false := by simpa using h4
      have b6 : (c == 121) = false := by simpa using h6
      simp [h1, h2, h3, h4, h6, b1, b2, b3, b4]
    | succ i =>
      have hp : ((i + 1 : Nat) : Int) > 0 := by omega
      have hw2 : wrap64 (((i + 1 : Nat) : Int) - 1) = (i : Int) := by rw [wrap_id (by omega) (by omega)]; omega
      have hg := vowsTo_get w (i + 1) i (by omega)
      have hl2 : (i : Int) < ((vowsTo w (i + 1)).length : Int) := by rw [vowsTo_len]; omega
      have h0 : (0 : Int) ≤ (i : Int) := by omega
      simp only [vow, isv, hw2, if_pos hp, hg, if_pos hl2, if_pos h0]
      generalize bt w ((i + 1 : Nat) : Int) = c
      generalize vow w i = v
      by_cases h1 : c = 97
      · subst h1; simp
      by_cases h2 : c = 101
      · subst h2; simp
      by_cases h3 : c = 105
      · subst h3; simp
      by_cases h4 : c = 111
      · subst h4; simp
      by_cases h6 : c = 121
      · subst h6; simp
      have b1 : (c == 97) = false := by simpa using h1
      have b2 : (c == 101) = false := by simpa using h2
      have b3 : (c == 105) = false := by simpa using h3
      have b4 : (c == 111) = false := by simpa using h4
      have b6 : (c == 121) = false := by simpa using h6
      simp [h1, h2, h3, h4, h6, b1, b2, b3, b4, b6]
theorem measure_ev (w : ByteArray) (hs : w.size ≤ 1000) : Ev (fun k => catchwordlaw03_measure.f k w) (measTo w w.size : Int) := by
  unfold catchwordlaw03_measure.f
  refine Ev.bind (vowels_ev w hs) ?_
  by_cases hz : w.size = 0
  · refine ⟨1, fun k hk => ?_⟩
    obtain ⟨k, rfl⟩ : ∃ m, k = m + 1 := ⟨k - 1, by omega⟩
    simp only [catchwordlaw03_measure.l0, vowsTo_len, hz]
    rw [if_neg (by rw [wrap_id (by omega) (by omega)]; omega)]; rfl
  suffices H : ∀ d i : Nat, i + 1 ≤ w.size → w.size - i = d → Ev (fun k => catchwordlaw03_measure.l0 k (vowsTo w w.size) (measTo w (i + 1) : Int) (i : Int)) (measTo w w.size : Int) from H w.size 0 (by omega) (by omega)
  intro d
  induction d with
  | zero => intro i hi hd; omega
  | succ d ih =>
    intro i hi hd
    have hw : wrap64 ((i : Int) + 1) = ((i + 1 : Nat) : Int) := by rw [wrap_id (by omega) (by omega)]; omega
    have hw3' : ∀ m : Nat, 2 * m ≤ i + 1 → wrap64 ((m : Int) + 1) = ((m + 1 : Nat) : Int) := fun m hm => by rw [wrap_id (by omega) (by omega)]; omega
    have hw3 := hw3' _ (measTo_le w (i + 1))
    clear hw3'
    by_cases he : i + 1 = w.size
    · refine ⟨1, fun k hk => ?_⟩
      obtain ⟨k, rfl⟩ : ∃ m, k = m + 1 := ⟨k - 1, by omega⟩
      simp only [catchwordlaw03_measure.l0, vowsTo_len, hw]
      rw [if_neg (by omega), he]
    · have P1 : ((i + 1 : Nat) : Int) < (w.size : Int) := by clear hw3; omega
      have P0 : (0 : Int) ≤ (i : Int) := by clear hw3; omega
      have Pi : (i : Int) < (w.size : Int) := by clear hw3; omega
      have P2 : (0 : Int) ≤ ((i + 1 : Nat) : Int) := by clear hw3; omega
      have Q1 : i < w.size := by clear hw3; omega
      have Q2 : i + 1 < w.size := by clear hw3; omega
      refine Ev.step (fun k => ?_) (ih (i + 1) (by clear hw3; omega) (by clear hw3; omega))
      simp only [catchwordlaw03_measure.l0, vowsTo_len, hw, hw3, if_pos P1, if_pos P0, if_pos Pi, if_pos P2, vowsTo_get w w.size i Q1, vowsTo_get w w.size (i + 1) Q2]
      by_cases h1 : vow w i = true
      · by_cases h2 : vow w (i + 1) = true
        · have hm : measTo w (i + 2) = measTo w (i + 1) := by simp [measTo, h1, h2]
          rw [if_pos h1, if_pos h2, ← hm]
        · have hm : measTo w (i + 2) = measTo w (i + 1) + 1 := by simp [measTo, h1, h2]
          rw [if_pos h1, if_neg h2, ← hm]
      · have hm : measTo w (i + 2) = measTo w (i + 1) := by simp [measTo, h1]
        rw [if_neg h1, ← hm]
theorem bt_app (w t : ByteArray) (i : Nat) (h : i < w.size) : bt (w ++ t) (i : Int) = bt w (i : Int) := by
  rw [bt_lst w i h, bt_lst (w ++ t) i (by rw [ByteArray.size_append]; omega)]
  congr 2
  simp only [lst_app]
  rw [List.getElem_append_left]
theorem vow_app (w t : ByteArray) : ∀ i, i < w.size → vow (w ++ t) i = vow w i
  | 0, h => by simp only [vow]; have := bt_app w t 0 h; have e0 : ((0 : Nat) : Int) = 0 := rfl; rw [e0] at this; rw [this]
  | i + 1, h => by simp only [vow]; rw [bt_app w t (i + 1) h, vow_app w t i (by omega)]
theorem measTo_app (w t : ByteArray) : ∀ j, j ≤ w.size → measTo (w ++ t) j = measTo w j
  | 0, _ => rfl
  | 1, _ => rfl
  | j + 2, h => by simp only [measTo]; rw [measTo_app w t (j + 1) (by omega), vow_app w t j (by omega), vow_app w t (j + 1) (by omega)]
theorem measTo_step (w : ByteArray) (j : Nat) : measTo w (j + 1) = measTo w j ∨ measTo w (j + 1) = measTo w j + 1 := by
  cases j with
  | zero => exact .inl rfl
  | succ j => simp only [measTo]; split <;> omega
theorem one_size (c : Int) : (strOfNums ([c] : List Int)).size = 1 := by simp [strOfNums, ByteArray.size]
theorem law_ev (w : ByteArray) (c : Int) (hs : w.size ≤ 140737488351232) : Ev (fun k => catchwordlaw03_StemMeasures.f k w c) true := by
  unfold catchwordlaw03_StemMeasures.f
  refine Ev.bind head_ok ?_
  simp only [if_true]
  by_cases hc : (w.size : Int) > 200
  · simp only [if_pos hc]; exact Ev.now _
  simp only [if_neg hc]
  have h1 := one_size c
  have hsz : (w ++ strOfNums [c]).size = w.size + 1 := by rw [ByteArray.size_append, h1]
  refine Ev.bind (meas_ev w hs) ?_
  refine Ev.bind (Ev.now _) ?_
  have hfit : w.size + (strOfNums ([c] : List Int)).size ≤ 9223372036854775807 := by omega
  simp only [if_pos hfit]
  refine Ev.bind (meas_ev _ (by omega)) ?_
  refine Ev.bind (measure_ev w (by omega)) ?_
  simp only [if_true]
  refine Ev.bind (Ev.now _) ?_
  simp only [if_pos hfit]
  refine Ev.bind (measure_ev (w ++ strOfNums [c]) (by omega)) ?_
  simp only [if_true]
  have hle := measTo_le w w.size
  have e2 : measTo (w ++ strOfNums [c]) (w ++ strOfNums [c]).size = measTo w w.size ∨ measTo (w ++ strOfNums [c]) (w ++ strOfNums [c]).size = measTo w w.size + 1 := by
    rw [hsz, ← measTo_app w (strOfNums [c]) w.size (Nat.le_refl _)]
    exact measTo_step _ _
  have hd : wrap64 ((w.size : Int) / 2) = (w.size : Int) / 2 := wrap_id (by omega) (by omega)
  have hw' : ∀ m : Nat, 2 * m ≤ w.size → wrap64 ((m : Int) + 1) = ((m + 1 : Nat) : Int) := fun m hm => by rw [wrap_id (by omega) (by omega)]; omega
  have hw := hw' _ hle
  have hdec' : ∀ m : Nat, 2 * m ≤ w.size → decide ((m : Int) ≤ (w.size : Int) / 2) = true := fun m hm => decide_eq_true (by omega)
  have hdec : decide ((measTo w w.size : Int) ≤ wrap64 ((w.size : Int) / 2)) = true := by rw [hd]; exact hdec' _ hle
  rw [hdec, hw]
  rcases e2 with e2 | e2
  · rw [e2]; simp only [if_true]; exact Ev.now _
  · rw [e2]
    refine ⟨0, fun k _ => ?_⟩
    simp only []
    rw [if_neg (by omega), if_pos trivial]
end StemAid
theorem StemMeasures : Go.Proofs.Ytnemoodjbekngaa.PStem.catchwordlaw03_StemMeasures.Pure := by
  intro w c hs _
  exact (StemAid.law_ev w c hs).rounds
end Go.Proofs.Ytnemoodjbekngaa.Pure
