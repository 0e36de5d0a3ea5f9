/-
  For each text of at most 2^47 bytes the printed function of StemShorter answers true. Conditions: none beyond the bounds that the statement itself has.
-/
import Derived.Test.YtnemoodjbekngaaStemShorterx5
import Derived.Test.YtnemoodjbekngaaStemy1
namespace Go.Proofs.Ytnemoodjbekngaa.Pure
namespace StemAid
open Go.RowKit Go.Proofs.Ytnemoodjbekngaa.PStem Go.Proofs.YtnemoodjbekngaaW.PrintWords Go.Proofs.YtnemoodjbekngaaW.PrintLast
theorem law_loop (s : ByteArray) (hs : s.size ≤ 140737488351232) (hl : Low s) : ∀ d i : Nat, i ≤ s.size → s.size - i = d → Ev (fun k => catchwordlaw03_StemShorter.l0 k s (i : Int)) true := by
  intro d
  induction d with
  | zero =>
    intro i hi hd
    refine ⟨1, fun k hk => ?_⟩
    obtain ⟨k, rfl⟩ : ∃ m, k = m + 1 := ⟨k - 1, by omega⟩
    simp only [catchwordlaw03_StemShorter.l0]
    rw [if_neg (by omega)]
  | succ d ih =>
    intro i hi hd
    refine Ev.step (fun k => ?_) (ih (i + 1) (by omega) (by omega))
    have hb := low_bt hl i (by omega)
    have hw : wrap64 ((i : Int) + 1) = ((i + 1 : Nat) : Int) := by rw [wrap_id (by omega) (by omega)]; omega
    simp only [catchwordlaw03_StemShorter.l0]
    rw [if_pos (by omega), if_pos (by omega), if_neg (by omega), if_neg (by omega), hw]
theorem law_ev (w : ByteArray) (hs : w.size ≤ 140737488351232) : Ev (fun k => catchwordlaw03_StemShorter.f k w) true := by
  unfold catchwordlaw03_StemShorter.f
  refine Ev.bind head_ok ?_
  simp only [if_true]
  by_cases hc : (w.size : Int) > 100
  · simp only [if_pos hc]; exact Ev.now _
  simp only [if_neg hc]
  have stays : ∀ b, Ev (fun k => stem_Stem.f k w) w → Ev (fun k => catchwordlaw03_plain.f k w) b → b = false →
      Ev (fun k => (stem_Stem.f k w).bind fun t183 => ((catchwordlaw03_plain.f k w).bind fun t184 => (if t184 = true then (if (t183.size : Int) > (w.size : Int) then (catchwordlaw03_StemShorter.j0 k t183 true) else (if (t183.size : Int) = 0 then (catchwordlaw03_StemShorter.j0 k t183 true) else (if 0 < (t183.size : Int) then (if 0 < (w.size : Int) then (catchwordlaw03_StemShorter.j0 k t183 ((bt t183 0) != (bt w 0))) else (none)) else (none)))) else (some (t183.toList == w.toList))))) true := by
    intro b e1 e2 hb
    subst hb
    refine Ev.bind e1 (Ev.bind e2 ?_)
    simp only [Bool.false_eq_true, if_false, beq_self_eq_true]
    exact Ev.now _
  rcases low_or w with hl | ⟨i, hi, hb, hlow⟩
  · by_cases h3 : 3 ≤ w.size
    · obtain ⟨r, e, g⟩ := stem_ev w hs hl h3
      have e2 := plain_true w hs hl
      have hd : decide ((w.size : Int) ≥ 3) = true := by simp; omega
      rw [hd] at e2
      refine Ev.bind e (Ev.bind e2 ?_)
      obtain ⟨gl, g0, gs, gh⟩ := g
      simp only [if_true]
      have hbt : bt r 0 = bt w 0 := by
        have a := bt_lst r 0 g0
        have b := bt_lst w 0 (by omega)
        have e0 : ((0 : Nat) : Int) = 0 := rfl
        rw [e0] at a b
        rw [a, b]
        rw [List.getElem?_eq_getElem (by rw [lst_len]; exact g0), List.getElem?_eq_getElem (by rw [lst_len]; omega)] at gh
        rw [Option.some.inj gh]
      refine Ev.step (f := fun k => catchwordlaw03_StemShorter.l0 k r 0) (fun k => ?_) (law_loop r (by omega) gl r.size 0 (by omega) (by omega))
      rw [if_neg (by omega), if_neg (by omega), if_pos (by omega), if_pos (by omega)]
      simp only [catchwordlaw03_StemShorter.j0, hbt, bne_self_eq_false, Bool.false_eq_true, if_false]
    · have e2 := plain_true w hs hl
      have hd : decide ((w.size : Int) ≥ 3) = false := by simp; omega
      rw [hd] at e2
      exact stays _ (stem_small w (by omega)) e2 rfl
  · exact stays _ (stem_stays w hs i hi hb hlow) (plain_false w hs i hi hb hlow) rfl
end StemAid
theorem StemShorter : Go.Proofs.Ytnemoodjbekngaa.PStem.catchwordlaw03_StemShorter.Pure := by
  intro w hs
  exact (StemAid.law_ev w hs).rounds
end Go.Proofs.Ytnemoodjbekngaa.Pure
