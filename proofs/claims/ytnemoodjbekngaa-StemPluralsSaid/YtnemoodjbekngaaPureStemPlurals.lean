/-
  For each text of at most 2^47 bytes the printed function of StemPlurals answers true. Conditions: none beyond the bounds that the statement itself has.
-/
import Derived.Test.YtnemoodjbekngaaStemPluralsx5
import Derived.Test.YtnemoodjbekngaaStemy1
namespace Go.Proofs.Ytnemoodjbekngaa.Pure
namespace StemAid
open Go.RowKit Go.Proofs.Ytnemoodjbekngaa.PStem Go.Proofs.YtnemoodjbekngaaW.PrintWords Go.Proofs.YtnemoodjbekngaaW.PrintLast
theorem suf_last {a b : ByteArray} (h : hasSuf a b = true) : ∃ n, lst a = (lst a).take n ++ lst b ∧ n = a.size - b.size := by
  refine ⟨a.size - b.size, ?_, rfl⟩
  unfold hasSuf at h
  simp only [Bool.and_eq_true, decide_eq_true_eq, beq_iff_eq] at h
  rw [← h.2, List.take_append_drop]
theorem suf_get {a b : ByteArray} (h : hasSuf a b = true) (i : Nat) (hi : i < b.size) : (lst a)[a.size - b.size + i]? = (lst b)[i]? := by
  unfold hasSuf at h
  simp only [Bool.and_eq_true, decide_eq_true_eq, beq_iff_eq] at h
  rw [← h.2, List.getElem?_drop]
theorem bt_get (w : ByteArray) (i : Nat) (h : i < w.size) {c : UInt8} (e : (lst w)[i]? = some c) : bt w (i : Int) = (c.toNat : Int) := by
  rw [bt_lst w i h]
  rw [List.getElem?_eq_getElem (by rw [lst_len]; exact h)] at e
  rw [Option.some.inj e]
theorem get_bt (w : ByteArray) (i : Nat) (h : i < w.size) {c : UInt8} (e : bt w (i : Int) = (c.toNat : Int)) : (lst w)[i]? = some c := by
  rw [bt_lst w i h] at e
  rw [List.getElem?_eq_getElem (by rw [lst_len]; exact h)]
  congr 1
  exact UInt8.toNat_inj.1 (by omega)
/-- No plural to be taken away. -/
theorem plural_none (w : ByteArray) (hs : w.size ≤ 140737488351232) (h0 : 0 < w.size) (hne : bt w ((w.size - 1 : Nat) : Int) ≠ 115) : Ev (fun k => stem_plural.f k w) w := by
  have no : ∀ b : ByteArray, 0 < b.size → (lst b)[b.size - 1]? = some 115 → hasSuf w b = false := by
    intro b hb hl
    by_cases h : hasSuf w b = true
    · exfalso
      have hle := suf_le h
      have := suf_get h (b.size - 1) (by omega)
      rw [hl, show w.size - b.size + (b.size - 1) = w.size - 1 from by omega] at this
      exact hne (bt_get w _ (by omega) this)
    · simpa using h
  refine ⟨1, fun k hk => ?_⟩
  obtain ⟨k, rfl⟩ : ∃ m, k = m + 1 := ⟨k - 1, by omega⟩
  simp only [stem_plural.f, stem_plural.j0, hs_g w _ hs, Option.bind_some]
  rw [no ⟨#[115, 115, 101, 115]⟩ (by decide) (by decide), no ⟨#[105, 101, 115]⟩ (by decide) (by decide), no ⟨#[115]⟩ (by decide) (by decide)]
  simp
/-- One s is taken away. -/
theorem plural_one (w : ByteArray) (hs : w.size ≤ 1000) (h3 : 3 ≤ w.size) (hne : bt w ((w.size - 1 : Nat) : Int) ≠ 115)
    (h2 : (w.extract (w.size - 2) w.size).toList ≠ [105, 101]) (h4 : (w.extract (w.size - 3) w.size).toList ≠ [115, 115, 101]) :
    Ev (fun k => stem_plural.f k (w ++ (⟨#[115]⟩ : ByteArray))) w := by
  have hsz : (w ++ (⟨#[115]⟩ : ByteArray)).size = w.size + 1 := by rw [ByteArray.size_append]; rfl
  have hs' : (w ++ (⟨#[115]⟩ : ByteArray)).size ≤ 140737488351232 := by omega
  rw [Lib.toList_data, Lib.extract_to_end] at h2 h4
  have hdrop : ∀ b : ByteArray, hasSuf (w ++ (⟨#[115]⟩ : ByteArray)) b = true → (lst w).drop (w.size + 1 - b.size) ++ [115] = lst b ∨ b.size = 0 := by
    intro b h
    have hle := suf_le h
    unfold hasSuf at h
    simp only [Bool.and_eq_true, decide_eq_true_eq, beq_iff_eq] at h
    have := h.2
    by_cases hb : b.size = 0
    · exact .inr hb
    left
    rw [hsz, lst_app, List.drop_append_of_le_length (by rw [lst_len]; omega)] at this
    exact this
  have n1 : hasSuf (w ++ (⟨#[115]⟩ : ByteArray)) ⟨#[115, 115, 101, 115]⟩ = false := by
    by_cases h : hasSuf (w ++ (⟨#[115]⟩ : ByteArray)) ⟨#[115, 115, 101, 115]⟩ = true
    · exfalso
      rcases hdrop _ h with h | h
      · apply h4
        have h : (lst w).drop (w.size - 3) ++ [115] = [115, 115, 101] ++ [115] := h
        exact List.append_cancel_right h
      · cases h
    · simpa using h
  have n2 : hasSuf (w ++ (⟨#[115]⟩ : ByteArray)) ⟨#[105, 101, 115]⟩ = false := by
    by_cases h : hasSuf (w ++ (⟨#[115]⟩ : ByteArray)) ⟨#[105, 101, 115]⟩ = true
    · exfalso
      rcases hdrop _ h with h | h
      · apply h2
        have h : (lst w).drop (w.size - 2) ++ [115] = [105, 101] ++ [115] := h
        exact List.append_cancel_right h
      · cases h
    · simpa using h
  have n3 : hasSuf (w ++ (⟨#[115]⟩ : ByteArray)) ⟨#[115]⟩ = true := by
    unfold hasSuf
    have h1 : (⟨#[115]⟩ : ByteArray).size = 1 := rfl
    simp only [Bool.and_eq_true, decide_eq_true_eq, beq_iff_eq]
    refine ⟨by omega, ?_⟩
    rw [hsz, h1, Nat.add_sub_cancel, lst_app, ← lst_len, List.drop_left]
  have n4 : hasSuf (w ++ (⟨#[115]⟩ : ByteArray)) ⟨#[115, 115]⟩ = false := by
    by_cases h : hasSuf (w ++ (⟨#[115]⟩ : ByteArray)) ⟨#[115, 115]⟩ = true
    · exfalso
      rcases hdrop _ h with h | h
      · apply hne
        have h : (lst w).drop (w.size - 1) ++ [115] = [115] ++ [115] := h
        have h := List.append_cancel_right h
        refine bt_get w (w.size - 1) (by omega) (c := 115) ?_
        have := congrArg (fun l => l[0]?) h
        simpa using this
      · cases h
    · simpa using h
  have hw : wrap64 (((w ++ (⟨#[115]⟩ : ByteArray)).size : Int) - 1) = (w.size : Int) := by rw [hsz, wrap_id (by omega) (by omega)]; omega
  have he : (w ++ (⟨#[115]⟩ : ByteArray)).extract 0 w.size = w := lst_inj (by rw [lst_take, lst_app, ← lst_len, List.take_left])
  refine ⟨1, fun k hk => ?_⟩
  obtain ⟨k, rfl⟩ : ∃ m, k = m + 1 := ⟨k - 1, by omega⟩
  simp only [stem_plural.f, stem_plural.j0, hs_g _ _ hs', Option.bind_some, n1, n2, n3, n4, hw, Bool.false_eq_true, if_false, if_true]
  rw [if_pos (by omega), if_pos (by omega), Int.toNat_natCast, he]
theorem low_app {a b : ByteArray} (ha : Low a) (hb : Low b) : Low (a ++ b) := by
  intro c hc
  rw [lst_app] at hc
  rcases List.mem_append.1 hc with h | h
  · exact ha c h
  · exact hb c h
theorem law_ev (w : ByteArray) (hs : w.size ≤ 140737488351232) : Ev (fun k => catchwordlaw03_StemPlurals.f k w) true := by
  unfold catchwordlaw03_StemPlurals.f
  refine Ev.bind head_ok ?_
  simp only [if_true]
  have out : Ev (fun k => catchwordlaw03_StemPlurals.j0 k w true) true := Ev.step (fun k => by simp [catchwordlaw03_StemPlurals.j0]) (Ev.now true)
  by_cases hc : (w.size : Int) > 60
  · simp only [if_pos hc]; exact out
  simp only [if_neg hc]
  rcases low_or w with hl | ⟨i, hi, hb, hlow⟩
  · have e2 := plain_true w hs hl
    by_cases h3 : 3 ≤ w.size
    · have hd : decide ((w.size : Int) ≥ 3) = true := by simp; omega
      rw [hd] at e2
      refine Ev.bind e2 ?_
      have h1 : wrap64 ((w.size : Int) - 1) = ((w.size - 1 : Nat) : Int) := by rw [wrap_id (by omega) (by omega)]; omega
      have h2 : wrap64 ((w.size : Int) - 2) = ((w.size - 2 : Nat) : Int) := by rw [wrap_id (by omega) (by omega)]; omega
      have h3' : wrap64 ((w.size : Int) - 3) = ((w.size - 3 : Nat) : Int) := by rw [wrap_id (by omega) (by omega)]; omega
      have out1 : Ev (fun k => catchwordlaw03_StemPlurals.j1 k w true) true := Ev.step (fun k => by simp [catchwordlaw03_StemPlurals.j1]) (Ev.now true)
      have step0 : ∀ k, catchwordlaw03_StemPlurals.j0 (k + 1) w (!true) = (if bt w ((w.size - 1 : Nat) : Int) = 115 then (catchwordlaw03_StemPlurals.j1 k w true) else (if (w.extract (w.size - 2) w.size).toList = ([105, 101] : List UInt8) then (catchwordlaw03_StemPlurals.j1 k w true) else (catchwordlaw03_StemPlurals.j1 k w ((w.extract (w.size - 3) w.size).toList == ([115, 115, 101] : List UInt8))))) := by
        intro k
        have a1 : (0 : Int) ≤ ((w.size - 1 : Nat) : Int) := by omega
        have a2 : (0 : Int) ≤ ((w.size - 2 : Nat) : Int) := by omega
        have a3 : (0 : Int) ≤ ((w.size - 3 : Nat) : Int) := by omega
        have b1 : ((w.size - 1 : Nat) : Int) < (w.size : Int) := by omega
        have b2 : ((w.size - 2 : Nat) : Int) ≤ (w.size : Int) := by omega
        have b3 : ((w.size - 3 : Nat) : Int) ≤ (w.size : Int) := by omega
        simp only [catchwordlaw03_StemPlurals.j0, h1, h2, h3', Bool.not_true, Bool.false_eq_true, if_false, if_pos a1, if_pos a2, if_pos a3, if_pos b1, if_pos b2, if_pos b3, Int.toNat_natCast]
      refine Ev.step step0 ?_
      by_cases c1 : bt w ((w.size - 1 : Nat) : Int) = 115
      · simp only [if_pos c1]; exact out1
      by_cases c2 : (w.extract (w.size - 2) w.size).toList = ([105, 101] : List UInt8)
      · simp only [if_neg c1, if_pos c2]; exact out1
      by_cases c3 : (w.extract (w.size - 3) w.size).toList = ([115, 115, 101] : List UInt8)
      · simp only [if_neg c1, if_neg c2, c3, beq_self_eq_true]; exact out1
      simp only [if_neg c1, if_neg c2]
      have hf : ((w.extract (w.size - 3) w.size).toList == ([115, 115, 101] : List UInt8)) = false := by simpa using c3
      rw [hf]
      -- both come to one stem
      obtain ⟨r2, e2, g2⟩ := past_ev w hs hl (by omega)
      obtain ⟨r3, e3, g3⟩ := rest_ev r2 (by have := g2.2.2.1; omega) g2.1 g2.2.1
      have hsz : (w ++ (⟨#[115]⟩ : ByteArray)).size = w.size + 1 := by rw [ByteArray.size_append]; rfl
      have hlow' : Low (w ++ (⟨#[115]⟩ : ByteArray)) := low_app hl (low_lit [115] (by decide))
      have f1 := stem_loop w hs hl (r := r3) (Ev.bind (plural_none w hs (by omega) c1) (Ev.bind e2 e3)) w.size 0 (by omega) (by omega)
      have f2 := stem_loop (w ++ (⟨#[115]⟩ : ByteArray)) (by omega) hlow' (r := r3) (Ev.bind (plural_one w (by omega) h3 c1 c2 c3) (Ev.bind e2 e3)) (w ++ (⟨#[115]⟩ : ByteArray)).size 0 (by omega) (by omega)
      have g1 : Ev (fun k => stem_Stem.f k w) r3 := by
        refine Ev.congr (fun k => ?_) f1
        unfold stem_Stem.f
        rw [if_neg (by omega)]; rfl
      have g2 : Ev (fun k => stem_Stem.f k (w ++ (⟨#[115]⟩ : ByteArray))) r3 := by
        refine Ev.congr (fun k => ?_) f2
        unfold stem_Stem.f
        rw [if_neg (by omega)]; rfl
      refine Ev.step (f := fun k => (stem_Stem.f k (w ++ (⟨#[115]⟩ : ByteArray))).bind fun t184 => ((stem_Stem.f k w).bind fun t185 => (some (t184.toList == t185.toList)))) (fun k => ?_) ?_
      · simp only [catchwordlaw03_StemPlurals.j1, Bool.false_eq_true, if_false]
        rw [if_pos (app_fit _ 1 hs (by omega))]
      · refine Ev.bind g2 (Ev.bind g1 ?_)
        simp only [beq_self_eq_true]
        exact Ev.now _
    · have hd : decide ((w.size : Int) ≥ 3) = false := by simp; omega
      rw [hd] at e2
      exact Ev.bind e2 out
  · exact Ev.bind (plain_false w hs i hi hb hlow) out
end StemAid
theorem StemPlurals : Go.Proofs.Ytnemoodjbekngaa.PStem.catchwordlaw03_StemPlurals.Pure := by
  intro w hs
  exact (StemAid.law_ev w hs).rounds
end Go.Proofs.Ytnemoodjbekngaa.Pure
