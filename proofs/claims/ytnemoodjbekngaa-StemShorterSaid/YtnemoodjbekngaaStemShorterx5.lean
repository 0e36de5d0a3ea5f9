/-
  What the code of StemShorter computes. Conditions: those that each law states.
-/
import Derived.Test.YtnemoodjbekngaaStemx0
import Derived.Test.YtnemoodjbekngaaStemx4
namespace Go.Proofs.Ytnemoodjbekngaa.PStem
open Go.RowKit Go.Proofs.YtnemoodjbekngaaW.PrintWords Go.Proofs.YtnemoodjbekngaaW.PrintLast Go.Proofs.YtnemoodjbekngaaW.PrintMore
attribute [local go_sem] max2_int min2_int max_two min_two max_three min_three max_four min_four   -- for this text's walks alone
set_option linter.unusedVariables false
set_option linter.unusedSimpArgs false

/-! ### catchwordlaw03_StemShorter: function 3 -/
mutual
def catchwordlaw03_StemShorter.j0 : Nat → ByteArray → Bool → Option (Bool)
  | 0, _, _ => none
  | k + 1, x3, x34 => if x34 = true then (some false) else (catchwordlaw03_StemShorter.l0 k x3 0)
def catchwordlaw03_StemShorter.l0 : Nat → ByteArray → Int → Option (Bool)
  | 0, _, _ => none
  | k + 1, x3, x4 => if x4 < (x3.size : Int) then (if 0 ≤ x4 then (if (bt x3 x4) < 97 then (some false) else (if (bt x3 x4) > 122 then (some false) else (catchwordlaw03_StemShorter.l0 k x3 (wrap64 (x4 + 1))))) else (none)) else (some true)
end
def catchwordlaw03_StemShorter.f (k : Nat) (a0 : ByteArray) : Option (Bool) := (catchwordlaw03_head.f k).bind fun t182 => (if t182 = true then (if (a0.size : Int) > 100 then (some true) else ((stem_Stem.f k a0).bind fun t183 => ((catchwordlaw03_plain.f k a0).bind fun t184 => (if t184 = true then (if (t183.size : Int) > (a0.size : Int) then (catchwordlaw03_StemShorter.j0 k t183 true) else (if (t183.size : Int) = 0 then (catchwordlaw03_StemShorter.j0 k t183 true) else (if 0 < (t183.size : Int) then (if 0 < (a0.size : Int) then (catchwordlaw03_StemShorter.j0 k t183 ((bt t183 0) != (bt a0 0))) else (none)) else (none)))) else (some (t183.toList == a0.toList)))))) else (some false))
theorem catchwordlaw03_StemShorter.mono_l : ∀ k, (∀ y0 y1, LeO (catchwordlaw03_StemShorter.j0 k y0 y1) (catchwordlaw03_StemShorter.j0 (k + 1) y0 y1)) ∧ (∀ y0 y1, LeO (catchwordlaw03_StemShorter.l0 k y0 y1) (catchwordlaw03_StemShorter.l0 (k + 1) y0 y1))
  | 0 => ⟨fun _ _ r h => by simp [catchwordlaw03_StemShorter.j0] at h, fun _ _ r h => by simp [catchwordlaw03_StemShorter.l0] at h⟩
  | k + 1 => by
    obtain ⟨ih0, ih1⟩ := catchwordlaw03_StemShorter.mono_l k
    refine ⟨?_, ?_⟩
    · intro y0 y1
      unfold catchwordlaw03_StemShorter.j0
      repeat' first
      | (with_reducible exact ih0 _ _)
      | (with_reducible exact ih1 _ _)
      | (with_reducible exact catchwordlaw03_head.mono _)
      | (with_reducible exact catchwordlaw03_plain.mono _ _)
      | (with_reducible exact stem_Stem.mono _ _)
      | (with_reducible exact LeO.refl _)
      | (with_reducible exact LeO.none _)
      | (with_reducible refine LeO.ite ?_ ?_)
      | (with_reducible refine LeO.bind ?_ (fun _ => ?_))
      | exact ih0 _ _
      | exact ih1 _ _
      | exact catchwordlaw03_head.mono _
      | exact catchwordlaw03_plain.mono _ _
      | exact stem_Stem.mono _ _
      | exact LeO.none _
      | refine LeO.ite ?_ ?_
      | refine LeO.bind ?_ (fun _ => ?_)
    · intro y0 y1
      unfold catchwordlaw03_StemShorter.l0
      repeat' first
      | (with_reducible exact ih0 _ _)
      | (with_reducible exact ih1 _ _)
      | (with_reducible exact catchwordlaw03_head.mono _)
      | (with_reducible exact catchwordlaw03_plain.mono _ _)
      | (with_reducible exact stem_Stem.mono _ _)
      | (with_reducible exact LeO.refl _)
      | (with_reducible exact LeO.none _)
      | (with_reducible refine LeO.ite ?_ ?_)
      | (with_reducible refine LeO.bind ?_ (fun _ => ?_))
      | exact ih0 _ _
      | exact ih1 _ _
      | exact catchwordlaw03_head.mono _
      | exact catchwordlaw03_plain.mono _ _
      | exact stem_Stem.mono _ _
      | exact LeO.none _
      | refine LeO.ite ?_ ?_
      | refine LeO.bind ?_ (fun _ => ?_)
theorem catchwordlaw03_StemShorter.mono : ∀ a0 k, LeO (catchwordlaw03_StemShorter.f k a0) (catchwordlaw03_StemShorter.f (k + 1) a0) := by
  intro a0 k
  obtain ⟨ih0, ih1⟩ := catchwordlaw03_StemShorter.mono_l k
  unfold catchwordlaw03_StemShorter.f
  repeat' first
      | (with_reducible exact ih0 _ _)
      | (with_reducible exact ih1 _ _)
      | (with_reducible exact catchwordlaw03_head.mono _)
      | (with_reducible exact catchwordlaw03_plain.mono _ _)
      | (with_reducible exact stem_Stem.mono _ _)
      | (with_reducible exact LeO.refl _)
      | (with_reducible exact LeO.none _)
      | (with_reducible refine LeO.ite ?_ ?_)
      | (with_reducible refine LeO.bind ?_ (fun _ => ?_))
      | exact ih0 _ _
      | exact ih1 _ _
      | exact catchwordlaw03_head.mono _
      | exact catchwordlaw03_plain.mono _ _
      | exact stem_Stem.mono _ _
      | exact LeO.none _
      | refine LeO.ite ?_ ?_
      | refine LeO.bind ?_ (fun _ => ?_)
set_option maxHeartbeats 8000000 in
set_option maxRecDepth 100000 in
theorem catchwordlaw03_StemShorter.calls (k : Nat) (a0 : ByteArray) (r : Bool) (w : World) (h : catchwordlaw03_StemShorter.f k a0 = some r) :
    Calls Try.prog 3 #[.string a0] w fun e w' => e = .returned (.bool r) ∧ Below w.heap.size w w' := by
  have HB := Aside0.mk (Below.refl w.heap.size w)
  have H : ((catchwordlaw03_head.f k).bind fun t182 => (if t182 = true then (if (a0.size : Int) > 100 then (some true) else ((stem_Stem.f k a0).bind fun t183 => ((catchwordlaw03_plain.f k a0).bind fun t184 => (if t184 = true then (if (t183.size : Int) > (a0.size : Int) then (catchwordlaw03_StemShorter.j0 k t183 true) else (if (t183.size : Int) = 0 then (catchwordlaw03_StemShorter.j0 k t183 true) else (if 0 < (t183.size : Int) then (if 0 < (a0.size : Int) then (catchwordlaw03_StemShorter.j0 k t183 ((bt t183 0) != (bt a0 0))) else (none)) else (none)))) else (some (t183.toList == a0.toList)))))) else (some false))) = some r := h
  clear h
  replace H := Option.bind_eq_some_iff.mp H
  obtain ⟨t182, A20, H⟩ := H
  replace H : (if t182 = true then (if (a0.size : Int) > 100 then (some true) else ((stem_Stem.f k a0).bind fun t183 => ((catchwordlaw03_plain.f k a0).bind fun t184 => (if t184 = true then (if (t183.size : Int) > (a0.size : Int) then (catchwordlaw03_StemShorter.j0 k t183 true) else (if (t183.size : Int) = 0 then (catchwordlaw03_StemShorter.j0 k t183 true) else (if 0 < (t183.size : Int) then (if 0 < (a0.size : Int) then (catchwordlaw03_StemShorter.j0 k t183 ((bt t183 0) != (bt a0 0))) else (none)) else (none)))) else (some (t183.toList == a0.toList)))))) else (some false)) = some r := H
  have A2 := Aside0.mk A20
  clear A20
  by_cases c3 : t182 = true
  · subst c3
    have H1 : (if (a0.size : Int) > 100 then (some true) else ((stem_Stem.f k a0).bind fun t183 => ((catchwordlaw03_plain.f k a0).bind fun t184 => (if t184 = true then (if (t183.size : Int) > (a0.size : Int) then (catchwordlaw03_StemShorter.j0 k t183 true) else (if (t183.size : Int) = 0 then (catchwordlaw03_StemShorter.j0 k t183 true) else (if 0 < (t183.size : Int) then (if 0 < (a0.size : Int) then (catchwordlaw03_StemShorter.j0 k t183 ((bt t183 0) != (bt a0 0))) else (none)) else (none)))) else (some (t183.toList == a0.toList)))))) = some r := by rw [if_pos rfl] at H; exact H
    clear H
    have H := H1
    clear H1
    by_cases c4 : (a0.size : Int) > 100
    · rw [if_pos c4] at H
      have c4b0 : decide (100 < (a0.size : Int)) = true := decide_eq_true c4
      have c4b1 : decide (100 < a0.size) = true := decide_eq_true (by omega)
      clear c4
      obtain rfl := Option.some.inj H
      go_enter Try.func3, Try.ntmps3
      go_wp2_with (first | (go_at_call 11; (with_reducible refine (catchwordlaw03_head.calls k  true _ A2.out).mono ?_); rintro e w5 ⟨rfl, hb⟩; have n0_ := Aside0.mk (below_step (by repeat (first | (with_reducible first | exact HB.out | apply below_alloc | apply pw_below_drewN | apply below_drew1) | exact HB.out)) hb); clear HB; have HB := n0_; clear n0_; (try clear hb); (try clear hb2); (try clear hk); (try clear hi)))
      repeat (go_quiet (first | (go_at_call 11; (with_reducible refine (catchwordlaw03_head.calls k  true _ A2.out).mono ?_); rintro e w5 ⟨rfl, hb⟩; have n0_ := Aside0.mk (below_step (by repeat (first | (with_reducible first | exact HB.out | apply below_alloc | apply pw_below_drewN | apply below_drew1) | exact HB.out)) hb); clear HB; have HB := n0_; clear n0_; (try clear hb); (try clear hb2); (try clear hk); (try clear hi))); try go_wp2_with (first | (go_at_call 11; (with_reducible refine (catchwordlaw03_head.calls k  true _ A2.out).mono ?_); rintro e w5 ⟨rfl, hb⟩; have n0_ := Aside0.mk (below_step (by repeat (first | (with_reducible first | exact HB.out | apply below_alloc | apply pw_below_drewN | apply below_drew1) | exact HB.out)) hb); clear HB; have HB := n0_; clear n0_; (try clear hb); (try clear hb2); (try clear hk); (try clear hi))))
      go_ret
      exact ⟨by first | rfl | (simp [errW_none, errW_some] <;> rfl) | (simp [*, errW_none, errW_some] <;> rfl), by repeat (first | (with_reducible first | exact HB.out | apply below_alloc | apply pw_below_drewN | apply below_drew1) | exact HB.out)⟩
    · rw [if_neg c4] at H
      have c4b0 : decide (100 < (a0.size : Int)) = false := decide_eq_false c4
      have c4b1 : decide (100 < a0.size) = false := decide_eq_false (by omega)
      clear c4
      replace H := Option.bind_eq_some_iff.mp H
      obtain ⟨t183, A60, H⟩ := H
      replace H : ((catchwordlaw03_plain.f k a0).bind fun t184 => (if t184 = true then (if (t183.size : Int) > (a0.size : Int) then (catchwordlaw03_StemShorter.j0 k t183 true) else (if (t183.size : Int) = 0 then (catchwordlaw03_StemShorter.j0 k t183 true) else (if 0 < (t183.size : Int) then (if 0 < (a0.size : Int) then (catchwordlaw03_StemShorter.j0 k t183 ((bt t183 0) != (bt a0 0))) else (none)) else (none)))) else (some (t183.toList == a0.toList)))) = some r := H
      have A6 := Aside0.mk A60
      clear A60
      replace H := Option.bind_eq_some_iff.mp H
      obtain ⟨t184, A70, H⟩ := H
      replace H : (if t184 = true then (if (t183.size : Int) > (a0.size : Int) then (catchwordlaw03_StemShorter.j0 k t183 true) else (if (t183.size : Int) = 0 then (catchwordlaw03_StemShorter.j0 k t183 true) else (if 0 < (t183.size : Int) then (if 0 < (a0.size : Int) then (catchwordlaw03_StemShorter.j0 k t183 ((bt t183 0) != (bt a0 0))) else (none)) else (none)))) else (some (t183.toList == a0.toList))) = some r := H
      have A7 := Aside0.mk A70
      clear A70
      by_cases c8 : t184 = true
      · subst c8
        have H1 : (if (t183.size : Int) > (a0.size : Int) then (catchwordlaw03_StemShorter.j0 k t183 true) else (if (t183.size : Int) = 0 then (catchwordlaw03_StemShorter.j0 k t183 true) else (if 0 < (t183.size : Int) then (if 0 < (a0.size : Int) then (catchwordlaw03_StemShorter.j0 k t183 ((bt t183 0) != (bt a0 0))) else (none)) else (none)))) = some r := by rw [if_pos rfl] at H; exact H
        clear H
        have H := H1
        clear H1
        have HC9 := Aside0.mk H
        clear H
        go_enter Try.func3, Try.ntmps3
        go_upto_region 8 with (first | (go_at_call 11; (with_reducible refine (catchwordlaw03_head.calls k  true _ A2.out).mono ?_); rintro e w10 ⟨rfl, hb⟩; have n0_ := Aside0.mk (below_step (by repeat (first | (with_reducible first | exact HB.out | apply below_alloc | apply pw_below_drewN | apply below_drew1) | exact HB.out)) hb); clear HB; have HB := n0_; clear n0_; (try clear hb); (try clear hb2); (try clear hk); (try clear hi)) | (go_at_call 12; (with_reducible refine (stem_Stem.calls k a0 t183 _ A6.out).mono ?_); rintro e w11 ⟨rfl, hb⟩; have n0_ := Aside0.mk (below_step (by repeat (first | (with_reducible first | exact HB.out | apply below_alloc | apply pw_below_drewN | apply below_drew1) | exact HB.out)) hb); clear HB; have HB := n0_; clear n0_; (try clear hb); (try clear hb2); (try clear hk); (try clear hi)) | (go_at_call 13; (with_reducible refine (catchwordlaw03_plain.calls k a0 true _ A7.out).mono ?_); rintro e w' ⟨rfl, ⟨nd, rfl⟩⟩; (try first | exact ⟨rfl, _, World.drewN_drewN _ _ _⟩ | exact ⟨rfl, _, Eq.trans (World.drewN_drewN _ _ _) (congrArg (World.drewN _) (Nat.add_assoc _ _ _))⟩)))
        repeat (go_quiet (first | (go_at_call 11; (with_reducible refine (catchwordlaw03_head.calls k  true _ A2.out).mono ?_); rintro e w10 ⟨rfl, hb⟩; have n0_ := Aside0.mk (below_step (by repeat (first | (with_reducible first | exact HB.out | apply below_alloc | apply pw_below_drewN | apply below_drew1) | exact HB.out)) hb); clear HB; have HB := n0_; clear n0_; (try clear hb); (try clear hb2); (try clear hk); (try clear hi)) | (go_at_call 12; (with_reducible refine (stem_Stem.calls k a0 t183 _ A6.out).mono ?_); rintro e w11 ⟨rfl, hb⟩; have n0_ := Aside0.mk (below_step (by repeat (first | (with_reducible first | exact HB.out | apply below_alloc | apply pw_below_drewN | apply below_drew1) | exact HB.out)) hb); clear HB; have HB := n0_; clear n0_; (try clear hb); (try clear hb2); (try clear hk); (try clear hi)) | (go_at_call 13; (with_reducible refine (catchwordlaw03_plain.calls k a0 true _ A7.out).mono ?_); rintro e w' ⟨rfl, ⟨nd, rfl⟩⟩; (try first | exact ⟨rfl, _, World.drewN_drewN _ _ _⟩ | exact ⟨rfl, _, Eq.trans (World.drewN_drewN _ _ _) (congrArg (World.drewN _) (Nat.add_assoc _ _ _))⟩))); go_upto_region 8 with (first | (go_at_call 11; (with_reducible refine (catchwordlaw03_head.calls k  true _ A2.out).mono ?_); rintro e w10 ⟨rfl, hb⟩; have n0_ := Aside0.mk (below_step (by repeat (first | (with_reducible first | exact HB.out | apply below_alloc | apply pw_below_drewN | apply below_drew1) | exact HB.out)) hb); clear HB; have HB := n0_; clear n0_; (try clear hb); (try clear hb2); (try clear hk); (try clear hi)) | (go_at_call 12; (with_reducible refine (stem_Stem.calls k a0 t183 _ A6.out).mono ?_); rintro e w11 ⟨rfl, hb⟩; have n0_ := Aside0.mk (below_step (by repeat (first | (with_reducible first | exact HB.out | apply below_alloc | apply pw_below_drewN | apply below_drew1) | exact HB.out)) hb); clear HB; have HB := n0_; clear n0_; (try clear hb); (try clear hb2); (try clear hk); (try clear hi)) | (go_at_call 13; (with_reducible refine (catchwordlaw03_plain.calls k a0 true _ A7.out).mono ?_); rintro e w' ⟨rfl, ⟨nd, rfl⟩⟩; (try first | exact ⟨rfl, _, World.drewN_drewN _ _ _⟩ | exact ⟨rfl, _, Eq.trans (World.drewN_drewN _ _ _) (congrArg (World.drewN _) (Nat.add_assoc _ _ _))⟩))))
        (try simp only [Act.put, List.setIfInBounds_toArray, List.set_cons_zero, List.set_cons_succ])
        go_cut [34] (fun v34 wc => ∃ (kq : Nat) (x34_8 : Bool), v34 = .bool x34_8 ∧ Aside0 (catchwordlaw03_StemShorter.j0 kq t183 x34_8 = some r) ∧ Aside0 (kq ≤ k) ∧ Aside0 (Below w.heap.size w wc))
        case first =>
          have H := HC9.out
          clear HC9
          by_cases c12 : (t183.size : Int) > (a0.size : Int)
          · rw [if_pos c12] at H
            have c12b0 : decide ((a0.size : Int) < (t183.size : Int)) = true := decide_eq_true c12
            have c12b1 : decide (a0.size < t183.size) = true := decide_eq_true (Int.ofNat_lt.mp c12)
            clear c12
            (first | rw [c12b0] | (simp only [i64_w, i32_w]; rw [c12b0]) | skip)
            have H' := Aside0.mk H
            clear H
            go_wp2
            repeat (go_quiet (fail); try go_wp2)
            go_meet
            case rel => exact ⟨_, (true), (by first | rfl | (simp; done) | (simp [*]; done)), H', ⟨by first | omega | exact Nat.le_refl _⟩, ⟨by repeat (first | (with_reducible first | exact HB.out | apply below_alloc | apply pw_below_drewN | apply below_drew1) | exact HB.out)⟩⟩
          · rw [if_neg c12] at H
            have c12b0 : decide ((a0.size : Int) < (t183.size : Int)) = false := decide_eq_false c12
            have c12b1 : decide (a0.size < t183.size) = false := decide_eq_false (fun h => c12 (Int.ofNat_lt.mpr h))
            clear c12
            (first | rw [c12b0] | (simp only [i64_w, i32_w]; rw [c12b0]) | skip)
            by_cases c13 : (t183.size : Int) = 0
            · rw [if_pos c13] at H
              have c13b0 : ((t183.size : Int) == 0) = true := beq_iff_eq.mpr c13
              have c13b1 : ((t183.size : Int) != 0) = false := bne_eq_false_iff_eq.mpr c13
              clear c13
              have H' := Aside0.mk H
              clear H
              go_wp2
              repeat (go_quiet (fail); try go_wp2)
              go_meet
              case rel => exact ⟨_, (true), (by first | rfl | (simp; done) | (simp [*]; done)), H', ⟨by first | omega | exact Nat.le_refl _⟩, ⟨by repeat (first | (with_reducible first | exact HB.out | apply below_alloc | apply pw_below_drewN | apply below_drew1) | exact HB.out)⟩⟩
            · rw [if_neg c13] at H
              have c13b0 : ((t183.size : Int) == 0) = false := beq_eq_false_iff_ne.mpr c13
              have c13b1 : ((t183.size : Int) != 0) = true := bne_iff_ne.mpr c13
              by_cases c14 : 0 < (t183.size : Int)
              · rw [if_pos c14] at H
                have c14b0 : decide (0 < (t183.size : Int)) = true := decide_eq_true c14
                have c14b1 : decide (0 < t183.size) = true := decide_eq_true (by omega)
                clear c14
                by_cases c16 : 0 < (a0.size : Int)
                · rw [if_pos c16] at H
                  have c16b0 : decide (0 < (a0.size : Int)) = true := decide_eq_true c16
                  have c16b1 : decide (0 < a0.size) = true := decide_eq_true (by omega)
                  clear c16
                  have H' := Aside0.mk H
                  clear H
                  have p15 : 0 ≤ (0 : Int) := (by omega)
                  have q15 : 0 < t183.size := (by have : (0 : Int) < (t183.size : Int) := of_decide_eq_true (by first | (with_reducible assumption) | assumption); omega)
                  have hx15 : ∀ h : 0 < t183.size, ((t183[0]'h).toNat : Int) = bt t183 0 := bt_at t183 0
                  clear p15
                  have qi15 : (0 < (t183.size : Int)) = True := eq_true (of_decide_eq_true (by first | (with_reducible assumption) | assumption))
                  replace q15 := eq_true q15
                  have p17 : 0 ≤ (0 : Int) := (by omega)
                  have q17 : 0 < a0.size := (by have : (0 : Int) < (a0.size : Int) := of_decide_eq_true (by first | (with_reducible assumption) | assumption); omega)
                  have hx17 : ∀ h : 0 < a0.size, ((a0[0]'h).toNat : Int) = bt a0 0 := bt_at a0 0
                  clear p17
                  have qi17 : (0 < (a0.size : Int)) = True := eq_true (of_decide_eq_true (by first | (with_reducible assumption) | assumption))
                  replace q17 := eq_true q17
                  go_wp2
                  repeat (go_quiet (fail); try go_wp2)
                  go_meet
                  case rel => exact ⟨_, (((bt t183 0) != (bt a0 0))), (by first | rfl | (simp; done) | (simp [*]; done)), H', ⟨by first | omega | exact Nat.le_refl _⟩, ⟨by repeat (first | (with_reducible first | exact HB.out | apply below_alloc | apply pw_below_drewN | apply below_drew1) | exact HB.out)⟩⟩
                · rw [if_neg c16] at H
                  exact absurd H (by simp)
              · rw [if_neg c14] at H
                exact absurd H (by simp)
        case rest =>
          clear HC9
          try clear c1
          try clear p1
          try clear q1
          try clear hx1
          try clear qi1
          try clear p2
          try clear c3
          try clear c4
          try clear c4b0
          try clear c4b1
          try clear c8
          try clear c12
          try clear c12b0
          try clear c12b1
          try clear c13
          try clear c13b0
          try clear c13b1
          try clear c14
          try clear c14b0
          try clear c14b1
          try clear p15
          try clear q15
          try clear hx15
          try clear qi15
          try clear c16
          try clear c16b0
          try clear c16b1
          try clear p17
          try clear q17
          try clear hx17
          try clear qi17
          try clear p15
          try clear p17
          try clear q15
          try clear q17
          obtain ⟨kq, x34_8, rfl, HA, HJ8, HB⟩ := hcut
          cases kq with
          | zero => exact absurd HA.out (by simp [catchwordlaw03_StemShorter.j0])
          | succ kj8 =>
            have H := HA.out
            clear HA
            simp only [catchwordlaw03_StemShorter.j0] at H
            by_cases c18 : x34_8 = true
            · subst c18
              have H1 : (some false) = some r := by rw [if_pos rfl] at H; exact H
              clear H
              have H := H1
              clear H1
              obtain rfl := Option.some.inj H
              go_wp2
              repeat (go_quiet (fail); try go_wp2)
              go_ret
              exact ⟨by first | rfl | (simp [errW_none, errW_some] <;> rfl) | (simp [*, errW_none, errW_some] <;> rfl), by repeat (first | (with_reducible first | exact HB.out | apply below_alloc | apply pw_below_drewN | apply below_drew1) | exact HB.out)⟩
            · replace c18 := Bool.eq_false_iff.mpr c18
              subst c18
              have H1 : (catchwordlaw03_StemShorter.l0 kj8 t183 0) = some r := by rw [if_neg (show ¬ (false = true) by decide)] at H; exact H
              clear H
              have H := H1
              clear H1
              have H' := Aside0.mk H
              clear H
              go_wp2
              repeat (go_quiet (fail); try go_wp2)
              go_loopg [4] kj8 (fun kq v4 w' => ∃ (x4_2 : Int), v4 = .int .i64 x4_2 ∧ Aside0 (catchwordlaw03_StemShorter.l0 kq t183 x4_2 = some r) ∧ Aside0 (kq ≤ kj8) ∧ Aside0 (Below w.heap.size w w'))
              case atStart => exact ⟨(0), (by first | rfl | (simp; done) | (simp [*]; done)), H', ⟨Nat.le_refl _⟩, ⟨by repeat (first | (with_reducible first | exact HB.out | apply below_alloc | apply pw_below_drewN | apply below_drew1) | exact HB.out)⟩⟩
              case round =>
                clear H'
                try clear c1
                try clear p1
                try clear q1
                try clear hx1
                try clear qi1
                try clear p2
                try clear c3
                try clear c4
                try clear c4b0
                try clear c4b1
                try clear c8
                try clear c12
                try clear c12b0
                try clear c12b1
                try clear c13
                try clear c13b0
                try clear c13b1
                try clear c14
                try clear c14b0
                try clear c14b1
                try clear p15
                try clear q15
                try clear hx15
                try clear qi15
                try clear c16
                try clear c16b0
                try clear c16b1
                try clear p17
                try clear q17
                try clear hx17
                try clear qi17
                try clear c18
                try clear p1
                try clear p15
                try clear p17
                try clear p2
                try clear q1
                try clear q15
                try clear q17
                obtain ⟨x4_2, rfl, HA, HK2, HB⟩ := hrel
                cases gk with
                | zero => exact absurd HA.out (by simp [catchwordlaw03_StemShorter.l0])
                | succ k2 =>
                  have H := HA.out
                  clear HA
                  simp only [catchwordlaw03_StemShorter.l0] at H
                  by_cases c19 : x4_2 < (t183.size : Int)
                  · rw [if_pos c19] at H
                    have c19b0 : decide (x4_2 < (t183.size : Int)) = true := decide_eq_true c19
                    clear c19
                    by_cases c20 : 0 ≤ x4_2
                    · rw [if_pos c20] at H
                      have c20b0 : decide (0 ≤ x4_2) = true := decide_eq_true c20
                      clear c20
                      by_cases c22 : (bt t183 x4_2) < 97
                      · rw [if_pos c22] at H
                        have c22b0 : decide ((bt t183 x4_2) < 97) = true := decide_eq_true c22
                        clear c22
                        obtain rfl := Option.some.inj H
                        have p21 : 0 ≤ (x4_2 : Int) := of_decide_eq_true (by first | (with_reducible assumption) | assumption)
                        have q21 : x4_2 < (t183.size : Int) := of_decide_eq_true (by first | (with_reducible assumption) | assumption)
                        have hx21 := bt_at t183 x4_2
                        replace p21 := eq_true p21
                        replace q21 := eq_true q21
                        go_wp2
                        repeat (go_quiet (fail); try go_wp2)
                        go_ret
                        exact ⟨by first | rfl | (simp [errW_none, errW_some] <;> rfl) | (simp [*, errW_none, errW_some] <;> rfl), by repeat (first | (with_reducible first | exact HB.out | apply below_alloc | apply pw_below_drewN | apply below_drew1) | exact HB.out)⟩
                      · rw [if_neg c22] at H
                        have c22b0 : decide ((bt t183 x4_2) < 97) = false := decide_eq_false c22
                        clear c22
                        by_cases c24 : (bt t183 x4_2) > 122
                        · rw [if_pos c24] at H
                          have c24b0 : decide (122 < (bt t183 x4_2)) = true := decide_eq_true c24
                          clear c24
                          obtain rfl := Option.some.inj H
                          have p21 : 0 ≤ (x4_2 : Int) := of_decide_eq_true (by first | (with_reducible assumption) | assumption)
                          have q21 : x4_2 < (t183.size : Int) := of_decide_eq_true (by first | (with_reducible assumption) | assumption)
                          have hx21 := bt_at t183 x4_2
                          replace p21 := eq_true p21
                          replace q21 := eq_true q21
                          have p23 : 0 ≤ (x4_2 : Int) := of_decide_eq_true (by first | (with_reducible assumption) | assumption)
                          have q23 : x4_2 < (t183.size : Int) := of_decide_eq_true (by first | (with_reducible assumption) | assumption)
                          have hx23 := bt_at t183 x4_2
                          replace p23 := eq_true p23
                          replace q23 := eq_true q23
                          go_wp2
                          repeat (go_quiet (fail); try go_wp2)
                          go_ret
                          exact ⟨by first | rfl | (simp [errW_none, errW_some] <;> rfl) | (simp [*, errW_none, errW_some] <;> rfl), by repeat (first | (with_reducible first | exact HB.out | apply below_alloc | apply pw_below_drewN | apply below_drew1) | exact HB.out)⟩
                        · rw [if_neg c24] at H
                          have c24b0 : decide (122 < (bt t183 x4_2)) = false := decide_eq_false c24
                          clear c24
                          have H' := Aside0.mk H
                          clear H
                          have p21 : 0 ≤ (x4_2 : Int) := of_decide_eq_true (by first | (with_reducible assumption) | assumption)
                          have q21 : x4_2 < (t183.size : Int) := of_decide_eq_true (by first | (with_reducible assumption) | assumption)
                          have hx21 := bt_at t183 x4_2
                          replace p21 := eq_true p21
                          replace q21 := eq_true q21
                          have p23 : 0 ≤ (x4_2 : Int) := of_decide_eq_true (by first | (with_reducible assumption) | assumption)
                          have q23 : x4_2 < (t183.size : Int) := of_decide_eq_true (by first | (with_reducible assumption) | assumption)
                          have hx23 := bt_at t183 x4_2
                          replace p23 := eq_true p23
                          replace q23 := eq_true q23
                          go_wp2
                          repeat (go_quiet (fail); try go_wp2)
                          go_roundg k2
                          case measure => have := HJ8.out; have := HK2.out; omega
                          case rel => exact ⟨(wrap64 (x4_2 + 1)), (by first | rfl | (simp; done) | (simp [*]; done)), H', ⟨by have := HJ8.out; have := HK2.out; omega⟩, ⟨by repeat (first | (with_reducible first | exact HB.out | apply below_alloc | apply pw_below_drewN | apply below_drew1) | exact HB.out)⟩⟩
                    · rw [if_neg c20] at H
                      exact absurd H (by simp)
                  · rw [if_neg c19] at H
                    have c19b0 : decide (x4_2 < (t183.size : Int)) = false := decide_eq_false c19
                    clear c19
                    obtain rfl := Option.some.inj H
                    go_wp2
                    repeat (go_quiet (fail); try go_wp2)
                    go_ret
                    exact ⟨by first | rfl | (simp [errW_none, errW_some] <;> rfl) | (simp [*, errW_none, errW_some] <;> rfl), by repeat (first | (with_reducible first | exact HB.out | apply below_alloc | apply pw_below_drewN | apply below_drew1) | exact HB.out)⟩
      · replace c8 := Bool.eq_false_iff.mpr c8
        subst c8
        have H1 : (some (t183.toList == a0.toList)) = some r := by rw [if_neg (show ¬ (false = true) by decide)] at H; exact H
        clear H
        have H := H1
        clear H1
        obtain rfl := Option.some.inj H
        go_enter Try.func3, Try.ntmps3
        go_wp2_with (first | (go_at_call 11; (with_reducible refine (catchwordlaw03_head.calls k  true _ A2.out).mono ?_); rintro e w25 ⟨rfl, hb⟩; have n0_ := Aside0.mk (below_step (by repeat (first | (with_reducible first | exact HB.out | apply below_alloc | apply pw_below_drewN | apply below_drew1) | exact HB.out)) hb); clear HB; have HB := n0_; clear n0_; (try clear hb); (try clear hb2); (try clear hk); (try clear hi)) | (go_at_call 12; (with_reducible refine (stem_Stem.calls k a0 t183 _ A6.out).mono ?_); rintro e w26 ⟨rfl, hb⟩; have n0_ := Aside0.mk (below_step (by repeat (first | (with_reducible first | exact HB.out | apply below_alloc | apply pw_below_drewN | apply below_drew1) | exact HB.out)) hb); clear HB; have HB := n0_; clear n0_; (try clear hb); (try clear hb2); (try clear hk); (try clear hi)) | (go_at_call 13; (with_reducible refine (catchwordlaw03_plain.calls k a0 false _ A7.out).mono ?_); rintro e w' ⟨rfl, ⟨nd, rfl⟩⟩; (try first | exact ⟨rfl, _, World.drewN_drewN _ _ _⟩ | exact ⟨rfl, _, Eq.trans (World.drewN_drewN _ _ _) (congrArg (World.drewN _) (Nat.add_assoc _ _ _))⟩)))
        repeat (go_quiet (first | (go_at_call 11; (with_reducible refine (catchwordlaw03_head.calls k  true _ A2.out).mono ?_); rintro e w25 ⟨rfl, hb⟩; have n0_ := Aside0.mk (below_step (by repeat (first | (with_reducible first | exact HB.out | apply below_alloc | apply pw_below_drewN | apply below_drew1) | exact HB.out)) hb); clear HB; have HB := n0_; clear n0_; (try clear hb); (try clear hb2); (try clear hk); (try clear hi)) | (go_at_call 12; (with_reducible refine (stem_Stem.calls k a0 t183 _ A6.out).mono ?_); rintro e w26 ⟨rfl, hb⟩; have n0_ := Aside0.mk (below_step (by repeat (first | (with_reducible first | exact HB.out | apply below_alloc | apply pw_below_drewN | apply below_drew1) | exact HB.out)) hb); clear HB; have HB := n0_; clear n0_; (try clear hb); (try clear hb2); (try clear hk); (try clear hi)) | (go_at_call 13; (with_reducible refine (catchwordlaw03_plain.calls k a0 false _ A7.out).mono ?_); rintro e w' ⟨rfl, ⟨nd, rfl⟩⟩; (try first | exact ⟨rfl, _, World.drewN_drewN _ _ _⟩ | exact ⟨rfl, _, Eq.trans (World.drewN_drewN _ _ _) (congrArg (World.drewN _) (Nat.add_assoc _ _ _))⟩))); try go_wp2_with (first | (go_at_call 11; (with_reducible refine (catchwordlaw03_head.calls k  true _ A2.out).mono ?_); rintro e w25 ⟨rfl, hb⟩; have n0_ := Aside0.mk (below_step (by repeat (first | (with_reducible first | exact HB.out | apply below_alloc | apply pw_below_drewN | apply below_drew1) | exact HB.out)) hb); clear HB; have HB := n0_; clear n0_; (try clear hb); (try clear hb2); (try clear hk); (try clear hi)) | (go_at_call 12; (with_reducible refine (stem_Stem.calls k a0 t183 _ A6.out).mono ?_); rintro e w26 ⟨rfl, hb⟩; have n0_ := Aside0.mk (below_step (by repeat (first | (with_reducible first | exact HB.out | apply below_alloc | apply pw_below_drewN | apply below_drew1) | exact HB.out)) hb); clear HB; have HB := n0_; clear n0_; (try clear hb); (try clear hb2); (try clear hk); (try clear hi)) | (go_at_call 13; (with_reducible refine (catchwordlaw03_plain.calls k a0 false _ A7.out).mono ?_); rintro e w' ⟨rfl, ⟨nd, rfl⟩⟩; (try first | exact ⟨rfl, _, World.drewN_drewN _ _ _⟩ | exact ⟨rfl, _, Eq.trans (World.drewN_drewN _ _ _) (congrArg (World.drewN _) (Nat.add_assoc _ _ _))⟩))))
        go_ret
        exact ⟨by first | rfl | (simp [errW_none, errW_some] <;> rfl) | (simp [*, errW_none, errW_some] <;> rfl), by repeat (first | (with_reducible first | exact HB.out | apply below_alloc | apply pw_below_drewN | apply below_drew1) | exact HB.out)⟩
  · replace c3 := Bool.eq_false_iff.mpr c3
    subst c3
    have H1 : (some false) = some r := by rw [if_neg (show ¬ (false = true) by decide)] at H; exact H
    clear H
    have H := H1
    clear H1
    obtain rfl := Option.some.inj H
    go_enter Try.func3, Try.ntmps3
    go_wp2_with (first | (go_at_call 11; (with_reducible refine (catchwordlaw03_head.calls k  false _ A2.out).mono ?_); rintro e w27 ⟨rfl, hb⟩; have n0_ := Aside0.mk (below_step (by repeat (first | (with_reducible first | exact HB.out | apply below_alloc | apply pw_below_drewN | apply below_drew1) | exact HB.out)) hb); clear HB; have HB := n0_; clear n0_; (try clear hb); (try clear hb2); (try clear hk); (try clear hi)))
    repeat (go_quiet (first | (go_at_call 11; (with_reducible refine (catchwordlaw03_head.calls k  false _ A2.out).mono ?_); rintro e w27 ⟨rfl, hb⟩; have n0_ := Aside0.mk (below_step (by repeat (first | (with_reducible first | exact HB.out | apply below_alloc | apply pw_below_drewN | apply below_drew1) | exact HB.out)) hb); clear HB; have HB := n0_; clear n0_; (try clear hb); (try clear hb2); (try clear hk); (try clear hi))); try go_wp2_with (first | (go_at_call 11; (with_reducible refine (catchwordlaw03_head.calls k  false _ A2.out).mono ?_); rintro e w27 ⟨rfl, hb⟩; have n0_ := Aside0.mk (below_step (by repeat (first | (with_reducible first | exact HB.out | apply below_alloc | apply pw_below_drewN | apply below_drew1) | exact HB.out)) hb); clear HB; have HB := n0_; clear n0_; (try clear hb); (try clear hb2); (try clear hk); (try clear hi))))
    go_ret
    exact ⟨by first | rfl | (simp [errW_none, errW_some] <;> rfl) | (simp [*, errW_none, errW_some] <;> rfl), by repeat (first | (with_reducible first | exact HB.out | apply below_alloc | apply pw_below_drewN | apply below_drew1) | exact HB.out)⟩

/-- THE ONE PURE STATEMENT of catchwordlaw03_StemShorter: yours. -/
def catchwordlaw03_StemShorter.Pure : Prop := ∀ (a0 : ByteArray), a0.size ≤ 140737488351232 → ∃ k, catchwordlaw03_StemShorter.f k a0 = some true
theorem catchwordlaw03_StemShorter.walk (P : catchwordlaw03_StemShorter.Pure) (a0 : ByteArray) (w : World) (w0 : a0.size ≤ 140737488351232) :
    Calls Try.prog 3 #[.string a0] w fun e w' => e = .returned (.bool true) ∧ Below w.heap.size w w' := by
  obtain ⟨k, h⟩ := P a0 w0
  refine (catchwordlaw03_StemShorter.calls k a0 true w h).mono ?_
  rintro e w' ⟨rfl, hd⟩
  exact ⟨rfl, hd⟩

end Go.Proofs.Ytnemoodjbekngaa.PStem
