/-
  What stem.past and stem.plural compute. Conditions: those that each law states.
-/
import Derived.Test.YtnemoodjbekngaaStemx0
import Derived.Test.YtnemoodjbekngaaStemx1
namespace Go.Proofs.Ytnemoodjbekngaa.PStem
open Go.RowKit Go.Proofs.YtnemoodjbekngaaW.PrintWords Go.Proofs.YtnemoodjbekngaaW.PrintLast Go.Proofs.YtnemoodjbekngaaW.PrintMore
attribute [local go_sem] max2_int min2_int max_two min_two max_three min_three max_four min_four   -- for this text's walks alone
set_option linter.unusedVariables false
set_option linter.unusedSimpArgs false

/-! ### stem_past: function 26 -/
mutual
def stem_past.j0 : Nat → ByteArray → ByteArray → Bool → Option (ByteArray)
  | 0, _, _, _ => none
  | k + 1, x0, x5, x6 => if x6 = true then ((stem_has.f k x5).bind fun t120 => (stem_past.j1 k x0 x5 (!t120))) else (stem_past.j1 k x0 x5 true)
def stem_past.j1 : Nat → ByteArray → ByteArray → Bool → Option (ByteArray)
  | 0, _, _, _ => none
  | k + 1, x0, x5, x37 => if x37 = true then (some x0) else ((strings_HasSuffix.f x5 (⟨#[97, 116]⟩ : ByteArray)).bind fun t121 => (if t121 = true then (stem_past.j2 k x5 t121) else ((strings_HasSuffix.f x5 (⟨#[98, 108]⟩ : ByteArray)).bind fun t122 => (if t122 = true then (stem_past.j2 k x5 t122) else ((strings_HasSuffix.f x5 (⟨#[105, 122]⟩ : ByteArray)).bind fun t123 => (stem_past.j2 k x5 t123))))))
def stem_past.j2 : Nat → ByteArray → Bool → Option (ByteArray)
  | 0, _, _ => none
  | k + 1, x5, x39 => if x39 = true then (if x5.size + 1 ≤ 9223372036854775807 then (some (x5 ++ (⟨#[101]⟩ : ByteArray))) else (none)) else ((stem_double.f k x5).bind fun t124 => (if t124 = true then ((strings_HasSuffix.f x5 (⟨#[108]⟩ : ByteArray)).bind fun t125 => (if t125 = true then (stem_past.j3 k x5 false) else ((strings_HasSuffix.f x5 (⟨#[115]⟩ : ByteArray)).bind fun t126 => (if t126 = true then (stem_past.j3 k x5 false) else ((strings_HasSuffix.f x5 (⟨#[122]⟩ : ByteArray)).bind fun t127 => (stem_past.j3 k x5 (!t127))))))) else (stem_past.j3 k x5 false)))
def stem_past.j3 : Nat → ByteArray → Bool → Option (ByteArray)
  | 0, _, _ => none
  | k + 1, x5, x48 => if x48 = true then (if 0 ≤ (wrap64 ((x5.size : Int) - 1)) then (if (wrap64 ((x5.size : Int) - 1)) ≤ (x5.size : Int) then (some (x5.extract 0 ((wrap64 ((x5.size : Int) - 1)) : Int).toNat)) else (none)) else (none)) else ((stem_Measure.f k x5).bind fun t128 => (if t128 = 1 then ((stem_short.f k x5).bind fun t129 => (if t129 = true then (if x5.size + 1 ≤ 9223372036854775807 then (some (x5 ++ (⟨#[101]⟩ : ByteArray))) else (none)) else (some x5))) else (some x5)))
end
def stem_past.f (k : Nat) (a0 : ByteArray) : Option (ByteArray) := (strings_CutSuffix.f a0 (⟨#[101, 101, 100]⟩ : ByteArray)).bind fun bt113 => (if bt113.2 = true then ((stem_Measure.f k bt113.1).bind fun t115 => (if t115 > 0 then (if bt113.1.size + 2 ≤ 9223372036854775807 then (some (bt113.1 ++ (⟨#[101, 101]⟩ : ByteArray))) else (none)) else (some a0))) else ((strings_CutSuffix.f a0 (⟨#[101, 100]⟩ : ByteArray)).bind fun bt116 => (if bt116.2 = true then (stem_past.j0 k a0 bt116.1 bt116.2) else ((strings_CutSuffix.f a0 (⟨#[105, 110, 103]⟩ : ByteArray)).bind fun bt118 => (stem_past.j0 k a0 bt118.1 bt118.2)))))
theorem stem_past.mono_l : ∀ k, (∀ y0 y1 y2, LeO (stem_past.j0 k y0 y1 y2) (stem_past.j0 (k + 1) y0 y1 y2)) ∧ (∀ y0 y1 y2, LeO (stem_past.j1 k y0 y1 y2) (stem_past.j1 (k + 1) y0 y1 y2)) ∧ (∀ y0 y1, LeO (stem_past.j2 k y0 y1) (stem_past.j2 (k + 1) y0 y1)) ∧ (∀ y0 y1, LeO (stem_past.j3 k y0 y1) (stem_past.j3 (k + 1) y0 y1))
  | 0 => ⟨fun _ _ _ r h => by simp [stem_past.j0] at h, fun _ _ _ r h => by simp [stem_past.j1] at h, fun _ _ r h => by simp [stem_past.j2] at h, fun _ _ r h => by simp [stem_past.j3] at h⟩
  | k + 1 => by
    obtain ⟨ih0, ih1, ih2, ih3⟩ := stem_past.mono_l k
    refine ⟨?_, ?_, ?_, ?_⟩
    · intro y0 y1 y2
      unfold stem_past.j0
      repeat' first
      | (with_reducible exact ih0 _ _ _)
      | (with_reducible exact ih1 _ _ _)
      | (with_reducible exact ih2 _ _)
      | (with_reducible exact ih3 _ _)
      | (with_reducible exact stem_Measure.mono _ _)
      | (with_reducible exact stem_double.mono _ _)
      | (with_reducible exact stem_has.mono _ _)
      | (with_reducible exact stem_short.mono _ _)
      | (with_reducible exact LeO.refl _)
      | (with_reducible exact LeO.none _)
      | (with_reducible refine LeO.ite ?_ ?_)
      | (with_reducible refine LeO.bind ?_ (fun _ => ?_))
      | exact ih0 _ _ _
      | exact ih1 _ _ _
      | exact ih2 _ _
      | exact ih3 _ _
      | exact stem_Measure.mono _ _
      | exact stem_double.mono _ _
      | exact stem_has.mono _ _
      | exact stem_short.mono _ _
      | exact LeO.none _
      | refine LeO.ite ?_ ?_
      | refine LeO.bind ?_ (fun _ => ?_)
    · intro y0 y1 y2
      unfold stem_past.j1
      repeat' first
      | (with_reducible exact ih0 _ _ _)
      | (with_reducible exact ih1 _ _ _)
      | (with_reducible exact ih2 _ _)
      | (with_reducible exact ih3 _ _)
      | (with_reducible exact stem_Measure.mono _ _)
      | (with_reducible exact stem_double.mono _ _)
      | (with_reducible exact stem_has.mono _ _)
      | (with_reducible exact stem_short.mono _ _)
      | (with_reducible exact LeO.refl _)
      | (with_reducible exact LeO.none _)
      | (with_reducible refine LeO.ite ?_ ?_)
      | (with_reducible refine LeO.bind ?_ (fun _ => ?_))
      | exact ih0 _ _ _
      | exact ih1 _ _ _
      | exact ih2 _ _
      | exact ih3 _ _
      | exact stem_Measure.mono _ _
      | exact stem_double.mono _ _
      | exact stem_has.mono _ _
      | exact stem_short.mono _ _
      | exact LeO.none _
      | refine LeO.ite ?_ ?_
      | refine LeO.bind ?_ (fun _ => ?_)
    · intro y0 y1
      unfold stem_past.j2
      repeat' first
      | (with_reducible exact ih0 _ _ _)
      | (with_reducible exact ih1 _ _ _)
      | (with_reducible exact ih2 _ _)
      | (with_reducible exact ih3 _ _)
      | (with_reducible exact stem_Measure.mono _ _)
      | (with_reducible exact stem_double.mono _ _)
      | (with_reducible exact stem_has.mono _ _)
      | (with_reducible exact stem_short.mono _ _)
      | (with_reducible exact LeO.refl _)
      | (with_reducible exact LeO.none _)
      | (with_reducible refine LeO.ite ?_ ?_)
      | (with_reducible refine LeO.bind ?_ (fun _ => ?_))
      | exact ih0 _ _ _
      | exact ih1 _ _ _
      | exact ih2 _ _
      | exact ih3 _ _
      | exact stem_Measure.mono _ _
      | exact stem_double.mono _ _
      | exact stem_has.mono _ _
      | exact stem_short.mono _ _
      | exact LeO.none _
      | refine LeO.ite ?_ ?_
      | refine LeO.bind ?_ (fun _ => ?_)
    · intro y0 y1
      unfold stem_past.j3
      repeat' first
      | (with_reducible exact ih0 _ _ _)
      | (with_reducible exact ih1 _ _ _)
      | (with_reducible exact ih2 _ _)
      | (with_reducible exact ih3 _ _)
      | (with_reducible exact stem_Measure.mono _ _)
      | (with_reducible exact stem_double.mono _ _)
      | (with_reducible exact stem_has.mono _ _)
      | (with_reducible exact stem_short.mono _ _)
      | (with_reducible exact LeO.refl _)
      | (with_reducible exact LeO.none _)
      | (with_reducible refine LeO.ite ?_ ?_)
      | (with_reducible refine LeO.bind ?_ (fun _ => ?_))
      | exact ih0 _ _ _
      | exact ih1 _ _ _
      | exact ih2 _ _
      | exact ih3 _ _
      | exact stem_Measure.mono _ _
      | exact stem_double.mono _ _
      | exact stem_has.mono _ _
      | exact stem_short.mono _ _
      | exact LeO.none _
      | refine LeO.ite ?_ ?_
      | refine LeO.bind ?_ (fun _ => ?_)
theorem stem_past.mono : ∀ a0 k, LeO (stem_past.f k a0) (stem_past.f (k + 1) a0) := by
  intro a0 k
  obtain ⟨ih0, ih1, ih2, ih3⟩ := stem_past.mono_l k
  unfold stem_past.f
  repeat' first
      | (with_reducible exact ih0 _ _ _)
      | (with_reducible exact ih1 _ _ _)
      | (with_reducible exact ih2 _ _)
      | (with_reducible exact ih3 _ _)
      | (with_reducible exact stem_Measure.mono _ _)
      | (with_reducible exact stem_double.mono _ _)
      | (with_reducible exact stem_has.mono _ _)
      | (with_reducible exact stem_short.mono _ _)
      | (with_reducible exact LeO.refl _)
      | (with_reducible exact LeO.none _)
      | (with_reducible refine LeO.ite ?_ ?_)
      | (with_reducible refine LeO.bind ?_ (fun _ => ?_))
      | exact ih0 _ _ _
      | exact ih1 _ _ _
      | exact ih2 _ _
      | exact ih3 _ _
      | exact stem_Measure.mono _ _
      | exact stem_double.mono _ _
      | exact stem_has.mono _ _
      | exact stem_short.mono _ _
      | exact LeO.none _
      | refine LeO.ite ?_ ?_
      | refine LeO.bind ?_ (fun _ => ?_)
set_option maxHeartbeats 8000000 in
set_option maxRecDepth 100000 in
theorem stem_past.calls (k : Nat) (a0 : ByteArray) (r : ByteArray) (w : World) (h : stem_past.f k a0 = some r) :
    Calls Try.prog 26 #[.string a0] w fun e w' => e = .returned (.string r) ∧ Drawn0 w w' := by
  have H : ((strings_CutSuffix.f a0 (⟨#[101, 101, 100]⟩ : ByteArray)).bind fun bt113 => (if bt113.2 = true then ((stem_Measure.f k bt113.1).bind fun t115 => (if t115 > 0 then (if bt113.1.size + 2 ≤ 9223372036854775807 then (some (bt113.1 ++ (⟨#[101, 101]⟩ : ByteArray))) else (none)) else (some a0))) else ((strings_CutSuffix.f a0 (⟨#[101, 100]⟩ : ByteArray)).bind fun bt116 => (if bt116.2 = true then (stem_past.j0 k a0 bt116.1 bt116.2) else ((strings_CutSuffix.f a0 (⟨#[105, 110, 103]⟩ : ByteArray)).bind fun bt118 => (stem_past.j0 k a0 bt118.1 bt118.2)))))) = some r := h
  clear h
  replace H := Option.bind_eq_some_iff.mp H
  obtain ⟨⟨t113, t114⟩, A20, H⟩ := H
  replace H : (if t114 = true then ((stem_Measure.f k t113).bind fun t115 => (if t115 > 0 then (if t113.size + 2 ≤ 9223372036854775807 then (some (t113 ++ (⟨#[101, 101]⟩ : ByteArray))) else (none)) else (some a0))) else ((strings_CutSuffix.f a0 (⟨#[101, 100]⟩ : ByteArray)).bind fun bt116 => (if bt116.2 = true then (stem_past.j0 k a0 bt116.1 bt116.2) else ((strings_CutSuffix.f a0 (⟨#[105, 110, 103]⟩ : ByteArray)).bind fun bt118 => (stem_past.j0 k a0 bt118.1 bt118.2))))) = some r := H
  have A2 := Aside0.mk A20
  clear A20
  by_cases c3 : t114 = true
  · subst c3
    have H1 : ((stem_Measure.f k t113).bind fun t115 => (if t115 > 0 then (if t113.size + 2 ≤ 9223372036854775807 then (some (t113 ++ (⟨#[101, 101]⟩ : ByteArray))) else (none)) else (some a0))) = some r := by rw [if_pos rfl] at H; exact H
    clear H
    have H := H1
    clear H1
    replace H := Option.bind_eq_some_iff.mp H
    obtain ⟨t115, A40, H⟩ := H
    replace H : (if t115 > 0 then (if t113.size + 2 ≤ 9223372036854775807 then (some (t113 ++ (⟨#[101, 101]⟩ : ByteArray))) else (none)) else (some a0)) = some r := H
    have A4 := Aside0.mk A40
    clear A40
    by_cases c5 : t115 > 0
    · rw [if_pos c5] at H
      have c5b0 : decide (0 < t115) = true := decide_eq_true c5
      clear c5
      by_cases c6 : t113.size + 2 ≤ 9223372036854775807
      · rw [if_pos c6] at H
        have c6b0 := eq_true c6
        have c6b1 : decide (t113.size + 2 ≤ 9223372036854775807) = true := decide_eq_true c6
        try have c6b2 : (9223372036854775807 < t113.size + 2) = False := eq_false (Nat.not_lt.2 c6)
        obtain rfl := Option.some.inj H
        go_enter Try.func26, Try.ntmps26
        go_wp2_with (first | ((with_reducible refine gate_callee (f := 28) rfl ?_); refine goesL_ (some 9) rfl rfl Try.func28 (by kernel_rfl) rfl #[.string a0, .string (⟨#[101, 101, 100]⟩ : ByteArray)] rfl (by (try simp only [List.map_toArray, List.map_cons, List.map_nil]); first | done | rfl | (simp only [List.length_drop, List.length_take]; rfl)) ?_; (with_reducible refine (strings_CutSuffix.calls a0 (⟨#[101, 101, 100]⟩ : ByteArray) t113 true _ A2.out).mono ?_); rintro e w' ⟨rfl, ⟨nd, rfl⟩⟩; refine ⟨_, rfl, ?_⟩) | ((with_reducible refine gate_callee (f := 14) rfl ?_); refine goesL_ (some 14) rfl rfl Try.func14 (by kernel_rfl) rfl #[.string t113] rfl (by (try simp only [List.map_toArray, List.map_cons, List.map_nil]); first | done | rfl | (simp only [List.length_drop, List.length_take]; rfl)) ?_; (with_reducible refine (stem_Measure.calls k t113 t115 _ A4.out).mono ?_); rintro e w' ⟨rfl, ⟨nd, rfl⟩⟩; refine ⟨_, rfl, ?_⟩))
        go_ret
        exact ⟨by first | rfl | (simp; done) | (simp [*]; done), by repeat (first | exact Drawn0.refl _ | apply Drawn0.step)⟩
      · rw [if_neg c6] at H
        exact absurd H (by simp)
    · rw [if_neg c5] at H
      have c5b0 : decide (0 < t115) = false := decide_eq_false c5
      clear c5
      obtain rfl := Option.some.inj H
      go_enter Try.func26, Try.ntmps26
      go_wp2_with (first | ((with_reducible refine gate_callee (f := 28) rfl ?_); refine goesL_ (some 9) rfl rfl Try.func28 (by kernel_rfl) rfl #[.string a0, .string (⟨#[101, 101, 100]⟩ : ByteArray)] rfl (by (try simp only [List.map_toArray, List.map_cons, List.map_nil]); first | done | rfl | (simp only [List.length_drop, List.length_take]; rfl)) ?_; (with_reducible refine (strings_CutSuffix.calls a0 (⟨#[101, 101, 100]⟩ : ByteArray) t113 true _ A2.out).mono ?_); rintro e w' ⟨rfl, ⟨nd, rfl⟩⟩; refine ⟨_, rfl, ?_⟩) | ((with_reducible refine gate_callee (f := 14) rfl ?_); refine goesL_ (some 14) rfl rfl Try.func14 (by kernel_rfl) rfl #[.string t113] rfl (by (try simp only [List.map_toArray, List.map_cons, List.map_nil]); first | done | rfl | (simp only [List.length_drop, List.length_take]; rfl)) ?_; (with_reducible refine (stem_Measure.calls k t113 t115 _ A4.out).mono ?_); rintro e w' ⟨rfl, ⟨nd, rfl⟩⟩; refine ⟨_, rfl, ?_⟩))
      go_ret
      exact ⟨by first | rfl | (simp; done) | (simp [*]; done), by repeat (first | exact Drawn0.refl _ | apply Drawn0.step)⟩
  · replace c3 := Bool.eq_false_iff.mpr c3
    subst c3
    have H1 : ((strings_CutSuffix.f a0 (⟨#[101, 100]⟩ : ByteArray)).bind fun bt116 => (if bt116.2 = true then (stem_past.j0 k a0 bt116.1 bt116.2) else ((strings_CutSuffix.f a0 (⟨#[105, 110, 103]⟩ : ByteArray)).bind fun bt118 => (stem_past.j0 k a0 bt118.1 bt118.2)))) = some r := by rw [if_neg (show ¬ (false = true) by decide)] at H; exact H
    clear H
    have H := H1
    clear H1
    replace H := Option.bind_eq_some_iff.mp H
    obtain ⟨⟨t116, t117⟩, A70, H⟩ := H
    replace H : (if t117 = true then (stem_past.j0 k a0 t116 t117) else ((strings_CutSuffix.f a0 (⟨#[105, 110, 103]⟩ : ByteArray)).bind fun bt118 => (stem_past.j0 k a0 bt118.1 bt118.2))) = some r := H
    have A7 := Aside0.mk A70
    clear A70
    have HC8 := Aside0.mk H
    clear H
    go_enter Try.func26, Try.ntmps26
    go_upto_if 25 with (first | ((with_reducible refine gate_callee (f := 28) rfl ?_); refine goesL_ (some 9) rfl rfl Try.func28 (by kernel_rfl) rfl #[.string a0, .string (⟨#[101, 101, 100]⟩ : ByteArray)] rfl (by (try simp only [List.map_toArray, List.map_cons, List.map_nil]); first | done | rfl | (simp only [List.length_drop, List.length_take]; rfl)) ?_; (with_reducible refine (strings_CutSuffix.calls a0 (⟨#[101, 101, 100]⟩ : ByteArray) t113 false _ A2.out).mono ?_); rintro e w' ⟨rfl, ⟨nd, rfl⟩⟩; refine ⟨_, rfl, ?_⟩) | ((with_reducible refine gate_callee (f := 28) rfl ?_); refine goesL_ (some 21) rfl rfl Try.func28 (by kernel_rfl) rfl #[.string a0, .string (⟨#[101, 100]⟩ : ByteArray)] rfl (by (try simp only [List.map_toArray, List.map_cons, List.map_nil]); first | done | rfl | (simp only [List.length_drop, List.length_take]; rfl)) ?_; (with_reducible refine (strings_CutSuffix.calls a0 (⟨#[101, 100]⟩ : ByteArray) t116 t117 _ A7.out).mono ?_); rintro e w' ⟨rfl, ⟨nd, rfl⟩⟩; refine ⟨_, rfl, ?_⟩))
    (try simp only [Act.put, List.setIfInBounds_toArray, List.set_cons_zero, List.set_cons_succ])
    go_cut [5, 6] (fun v5 v6 wc => ∃ (kq : Nat) (x5_7 : ByteArray) (x6_7 : Bool), v5 = .string x5_7 ∧ v6 = .bool x6_7 ∧ Aside0 (stem_past.j0 kq a0 x5_7 x6_7 = some r) ∧ Aside0 (kq ≤ k) ∧ Drawn0 w wc)
    case first =>
      have H := HC8.out
      clear HC8
      by_cases c9 : t117 = true
      · subst c9
        have H1 : (stem_past.j0 k a0 t116 true) = some r := by rw [if_pos rfl] at H; exact H
        clear H
        have H := H1
        clear H1
        have H' := Aside0.mk H
        clear H
        go_wp2
        go_meet
        case rel => exact ⟨_, (t116), (true), (by first | rfl | (simp; done) | (simp [*]; done)), (by first | rfl | (simp; done) | (simp [*]; done)), H', ⟨by first | omega | exact Nat.le_refl _⟩, by repeat (first | exact Drawn0.refl _ | apply Drawn0.step)⟩
      · replace c9 := Bool.eq_false_iff.mpr c9
        subst c9
        have H1 : ((strings_CutSuffix.f a0 (⟨#[105, 110, 103]⟩ : ByteArray)).bind fun bt118 => (stem_past.j0 k a0 bt118.1 bt118.2)) = some r := by rw [if_neg (show ¬ (false = true) by decide)] at H; exact H
        clear H
        have H := H1
        clear H1
        replace H := Option.bind_eq_some_iff.mp H
        obtain ⟨⟨t118, t119⟩, A100, H⟩ := H
        replace H : (stem_past.j0 k a0 t118 t119) = some r := H
        have A10 := Aside0.mk A100
        clear A100
        have H' := Aside0.mk H
        clear H
        go_wp2_with (first | ((with_reducible refine gate_callee (f := 28) rfl ?_); refine goesL_ (some 28) rfl rfl Try.func28 (by kernel_rfl) rfl #[.string a0, .string (⟨#[105, 110, 103]⟩ : ByteArray)] rfl (by (try simp only [List.map_toArray, List.map_cons, List.map_nil]); first | done | rfl | (simp only [List.length_drop, List.length_take]; rfl)) ?_; (with_reducible refine (strings_CutSuffix.calls a0 (⟨#[105, 110, 103]⟩ : ByteArray) t118 t119 _ A10.out).mono ?_); rintro e w' ⟨rfl, ⟨nd, rfl⟩⟩; refine ⟨_, rfl, ?_⟩))
        go_meet
        case rel => exact ⟨_, (t118), (t119), (by first | rfl | (simp; done) | (simp [*]; done)), (by first | rfl | (simp; done) | (simp [*]; done)), H', ⟨by first | omega | exact Nat.le_refl _⟩, by repeat (first | exact Drawn0.refl _ | apply Drawn0.step)⟩
    case rest =>
      clear HC8
      try clear c1
      try clear c2
      try clear p2
      try clear c3
      try clear c5
      try clear c5b0
      try clear c6
      try clear c6b0
      try clear c6b1
      try clear c6b2
      try clear c9
      obtain ⟨kq, x5_7, x6_7, rfl, rfl, HA, HJ7, ⟨mc7, rfl⟩⟩ := hcut
      cases kq with
      | zero => exact absurd HA.out (by simp [stem_past.j0])
      | succ kj7 =>
        have H := HA.out
        clear HA
        simp only [stem_past.j0] at H
        have HC11 := Aside0.mk H
        clear H
        go_upto_region 9 with (fail)
        go_cut [37] (fun v37 wc => ∃ (kq : Nat) (x37_10 : Bool), v37 = .bool x37_10 ∧ Aside0 (stem_past.j1 kq a0 x5_7 x37_10 = some r) ∧ Aside0 (kq ≤ kj7) ∧ Drawn0 w wc)
        case first =>
          have H := HC11.out
          clear HC11
          by_cases c12 : x6_7 = true
          · subst c12
            have H1 : ((stem_has.f kj7 x5_7).bind fun t120 => (stem_past.j1 kj7 a0 x5_7 (!t120))) = some r := by rw [if_pos rfl] at H; exact H
            clear H
            have H := H1
            clear H1
            replace H := Option.bind_eq_some_iff.mp H
            obtain ⟨t120, A130, H⟩ := H
            replace H : (stem_past.j1 kj7 a0 x5_7 (!t120)) = some r := H
            have A13 := Aside0.mk A130
            clear A130
            have H' := Aside0.mk H
            clear H
            go_wp2_with (first | (go_at_call 29; (with_reducible refine (stem_has.calls kj7 x5_7 t120 _ A13.out).mono ?_); rintro e w' ⟨rfl, ⟨nd, rfl⟩⟩))
            go_meet
            case rel => exact ⟨_, (!t120), (by first | rfl | (simp; done) | (simp [*]; done)), H', ⟨by have := HJ7.out; first | omega | exact Nat.le_refl _⟩, by repeat (first | exact Drawn0.refl _ | apply Drawn0.step)⟩
          · replace c12 := Bool.eq_false_iff.mpr c12
            subst c12
            have H1 : (stem_past.j1 kj7 a0 x5_7 true) = some r := by rw [if_neg (show ¬ (false = true) by decide)] at H; exact H
            clear H
            have H := H1
            clear H1
            have H' := Aside0.mk H
            clear H
            go_wp2
            go_meet
            case rel => exact ⟨_, (true), (by first | rfl | (simp; done) | (simp [*]; done)), H', ⟨by have := HJ7.out; first | omega | exact Nat.le_refl _⟩, by repeat (first | exact Drawn0.refl _ | apply Drawn0.step)⟩
        case rest =>
          clear HC11
          try clear c1
          try clear c2
          try clear p2
          try clear c3
          try clear c5
          try clear c5b0
          try clear c6
          try clear c6b0
          try clear c6b1
          try clear c6b2
          try clear c7
          try clear c9
          try clear c12
          try clear p2
          obtain ⟨kq, x37_10, rfl, HA, HJ10, ⟨mc10, rfl⟩⟩ := hcut
          cases kq with
          | zero => exact absurd HA.out (by simp [stem_past.j1])
          | succ kj10 =>
            have H := HA.out
            clear HA
            simp only [stem_past.j1] at H
            by_cases c14 : x37_10 = true
            · subst c14
              have H1 : (some a0) = some r := by rw [if_pos rfl] at H; exact H
              clear H
              have H := H1
              clear H1
              obtain rfl := Option.some.inj H
              go_wp2
              go_ret
              exact ⟨by first | rfl | (simp; done) | (simp [*]; done), by repeat (first | exact Drawn0.refl _ | apply Drawn0.step)⟩
            · replace c14 := Bool.eq_false_iff.mpr c14
              subst c14
              have H1 : ((strings_HasSuffix.f x5_7 (⟨#[97, 116]⟩ : ByteArray)).bind fun t121 => (if t121 = true then (stem_past.j2 kj10 x5_7 t121) else ((strings_HasSuffix.f x5_7 (⟨#[98, 108]⟩ : ByteArray)).bind fun t122 => (if t122 = true then (stem_past.j2 kj10 x5_7 t122) else ((strings_HasSuffix.f x5_7 (⟨#[105, 122]⟩ : ByteArray)).bind fun t123 => (stem_past.j2 kj10 x5_7 t123)))))) = some r := by rw [if_neg (show ¬ (false = true) by decide)] at H; exact H
              clear H
              have H := H1
              clear H1
              replace H := Option.bind_eq_some_iff.mp H
              obtain ⟨t121, A150, H⟩ := H
              replace H : (if t121 = true then (stem_past.j2 kj10 x5_7 t121) else ((strings_HasSuffix.f x5_7 (⟨#[98, 108]⟩ : ByteArray)).bind fun t122 => (if t122 = true then (stem_past.j2 kj10 x5_7 t122) else ((strings_HasSuffix.f x5_7 (⟨#[105, 122]⟩ : ByteArray)).bind fun t123 => (stem_past.j2 kj10 x5_7 t123))))) = some r := H
              have A15 := Aside0.mk A150
              clear A150
              have HC16 := Aside0.mk H
              clear H
              go_upto_if 39 with (first | ((with_reducible refine gate_callee (f := 40) rfl ?_); refine goesL_ (some 41) rfl rfl Try.func40 (by kernel_rfl) rfl #[.string x5_7, .string (⟨#[97, 116]⟩ : ByteArray)] rfl (by (try simp only [List.map_toArray, List.map_cons, List.map_nil]); first | done | rfl | (simp only [List.length_drop, List.length_take]; rfl)) ?_; (with_reducible refine (strings_HasSuffix.calls x5_7 (⟨#[97, 116]⟩ : ByteArray) t121 _ A15.out).mono ?_); rintro e w' ⟨rfl, ⟨nd, rfl⟩⟩; refine ⟨_, rfl, ?_⟩))
              (try simp only [Act.put, List.setIfInBounds_toArray, List.set_cons_zero, List.set_cons_succ])
              go_cut [39] (fun v39 wc => ∃ (kq : Nat) (x39_15 : Bool), v39 = .bool x39_15 ∧ Aside0 (stem_past.j2 kq x5_7 x39_15 = some r) ∧ Aside0 (kq ≤ kj10) ∧ Drawn0 w wc)
              case first =>
                have H := HC16.out
                clear HC16
                by_cases c17 : t121 = true
                · subst c17
                  have H1 : (stem_past.j2 kj10 x5_7 true) = some r := by rw [if_pos rfl] at H; exact H
                  clear H
                  have H := H1
                  clear H1
                  have H' := Aside0.mk H
                  clear H
                  go_wp2
                  go_meet
                  case rel => exact ⟨_, (true), (by first | rfl | (simp; done) | (simp [*]; done)), H', ⟨by have := HJ7.out; have := HJ10.out; first | omega | exact Nat.le_refl _⟩, by repeat (first | exact Drawn0.refl _ | apply Drawn0.step)⟩
                · replace c17 := Bool.eq_false_iff.mpr c17
                  subst c17
                  have H1 : ((strings_HasSuffix.f x5_7 (⟨#[98, 108]⟩ : ByteArray)).bind fun t122 => (if t122 = true then (stem_past.j2 kj10 x5_7 t122) else ((strings_HasSuffix.f x5_7 (⟨#[105, 122]⟩ : ByteArray)).bind fun t123 => (stem_past.j2 kj10 x5_7 t123)))) = some r := by rw [if_neg (show ¬ (false = true) by decide)] at H; exact H
                  clear H
                  have H := H1
                  clear H1
                  replace H := Option.bind_eq_some_iff.mp H
                  obtain ⟨t122, A180, H⟩ := H
                  replace H : (if t122 = true then (stem_past.j2 kj10 x5_7 t122) else ((strings_HasSuffix.f x5_7 (⟨#[105, 122]⟩ : ByteArray)).bind fun t123 => (stem_past.j2 kj10 x5_7 t123))) = some r := H
                  have A18 := Aside0.mk A180
                  clear A180
                  by_cases c19 : t122 = true
                  · subst c19
                    have H1 : (stem_past.j2 kj10 x5_7 true) = some r := by rw [if_pos rfl] at H; exact H
                    clear H
                    have H := H1
                    clear H1
                    have H' := Aside0.mk H
                    clear H
                    go_wp2_with (first | ((with_reducible refine gate_callee (f := 40) rfl ?_); refine goesL_ (some 43) rfl rfl Try.func40 (by kernel_rfl) rfl #[.string x5_7, .string (⟨#[98, 108]⟩ : ByteArray)] rfl (by (try simp only [List.map_toArray, List.map_cons, List.map_nil]); first | done | rfl | (simp only [List.length_drop, List.length_take]; rfl)) ?_; (with_reducible refine (strings_HasSuffix.calls x5_7 (⟨#[98, 108]⟩ : ByteArray) true _ A18.out).mono ?_); rintro e w' ⟨rfl, ⟨nd, rfl⟩⟩; refine ⟨_, rfl, ?_⟩))
                    go_meet
                    case rel => exact ⟨_, (true), (by first | rfl | (simp; done) | (simp [*]; done)), H', ⟨by have := HJ7.out; have := HJ10.out; first | omega | exact Nat.le_refl _⟩, by repeat (first | exact Drawn0.refl _ | apply Drawn0.step)⟩
                  · replace c19 := Bool.eq_false_iff.mpr c19
                    subst c19
                    have H1 : ((strings_HasSuffix.f x5_7 (⟨#[105, 122]⟩ : ByteArray)).bind fun t123 => (stem_past.j2 kj10 x5_7 t123)) = some r := by rw [if_neg (show ¬ (false = true) by decide)] at H; exact H
                    clear H
                    have H := H1
                    clear H1
                    replace H := Option.bind_eq_some_iff.mp H
                    obtain ⟨t123, A200, H⟩ := H
                    replace H : (stem_past.j2 kj10 x5_7 t123) = some r := H
                    have A20 := Aside0.mk A200
                    clear A200
                    have H' := Aside0.mk H
                    clear H
                    go_wp2_with (first | ((with_reducible refine gate_callee (f := 40) rfl ?_); refine goesL_ (some 43) rfl rfl Try.func40 (by kernel_rfl) rfl #[.string x5_7, .string (⟨#[98, 108]⟩ : ByteArray)] rfl (by (try simp only [List.map_toArray, List.map_cons, List.map_nil]); first | done | rfl | (simp only [List.length_drop, List.length_take]; rfl)) ?_; (with_reducible refine (strings_HasSuffix.calls x5_7 (⟨#[98, 108]⟩ : ByteArray) false _ A18.out).mono ?_); rintro e w' ⟨rfl, ⟨nd, rfl⟩⟩; refine ⟨_, rfl, ?_⟩) | ((with_reducible refine gate_callee (f := 40) rfl ?_); refine goesL_ (some 45) rfl rfl Try.func40 (by kernel_rfl) rfl #[.string x5_7, .string (⟨#[105, 122]⟩ : ByteArray)] rfl (by (try simp only [List.map_toArray, List.map_cons, List.map_nil]); first | done | rfl | (simp only [List.length_drop, List.length_take]; rfl)) ?_; (with_reducible refine (strings_HasSuffix.calls x5_7 (⟨#[105, 122]⟩ : ByteArray) t123 _ A20.out).mono ?_); rintro e w' ⟨rfl, ⟨nd, rfl⟩⟩; refine ⟨_, rfl, ?_⟩))
                    go_meet
                    case rel => exact ⟨_, (t123), (by first | rfl | (simp; done) | (simp [*]; done)), H', ⟨by have := HJ7.out; have := HJ10.out; first | omega | exact Nat.le_refl _⟩, by repeat (first | exact Drawn0.refl _ | apply Drawn0.step)⟩
              case rest =>
                clear HC16
                try clear c1
                try clear c2
                try clear p2
                try clear c3
                try clear c4
                try clear c5
                try clear c5b0
                try clear c6
                try clear c6b0
                try clear c6b1
                try clear c6b2
                try clear c7
                try clear c9
                try clear c10
                try clear c12
                try clear c14
                try clear c17
                try clear c19
                try clear p2
                obtain ⟨kq, x39_15, rfl, HA, HJ15, ⟨mc15, rfl⟩⟩ := hcut
                cases kq with
                | zero => exact absurd HA.out (by simp [stem_past.j2])
                | succ kj15 =>
                  have H := HA.out
                  clear HA
                  simp only [stem_past.j2] at H
                  by_cases c21 : x39_15 = true
                  · subst c21
                    have H1 : (if x5_7.size + 1 ≤ 9223372036854775807 then (some (x5_7 ++ (⟨#[101]⟩ : ByteArray))) else (none)) = some r := by rw [if_pos rfl] at H; exact H
                    clear H
                    have H := H1
                    clear H1
                    by_cases c22 : x5_7.size + 1 ≤ 9223372036854775807
                    · rw [if_pos c22] at H
                      have c22b0 := eq_true c22
                      have c22b1 : decide (x5_7.size + 1 ≤ 9223372036854775807) = true := decide_eq_true c22
                      try have c22b2 : (9223372036854775807 < x5_7.size + 1) = False := eq_false (Nat.not_lt.2 c22)
                      obtain rfl := Option.some.inj H
                      go_wp2
                      go_ret
                      exact ⟨by first | rfl | (simp; done) | (simp [*]; done), by repeat (first | exact Drawn0.refl _ | apply Drawn0.step)⟩
                    · rw [if_neg c22] at H
                      exact absurd H (by simp)
                  · replace c21 := Bool.eq_false_iff.mpr c21
                    subst c21
                    have H1 : ((stem_double.f kj15 x5_7).bind fun t124 => (if t124 = true then ((strings_HasSuffix.f x5_7 (⟨#[108]⟩ : ByteArray)).bind fun t125 => (if t125 = true then (stem_past.j3 kj15 x5_7 false) else ((strings_HasSuffix.f x5_7 (⟨#[115]⟩ : ByteArray)).bind fun t126 => (if t126 = true then (stem_past.j3 kj15 x5_7 false) else ((strings_HasSuffix.f x5_7 (⟨#[122]⟩ : ByteArray)).bind fun t127 => (stem_past.j3 kj15 x5_7 (!t127))))))) else (stem_past.j3 kj15 x5_7 false))) = some r := by rw [if_neg (show ¬ (false = true) by decide)] at H; exact H
                    clear H
                    have H := H1
                    clear H1
                    have HC23 := Aside0.mk H
                    clear H
                    go_upto_region 15 with (fail)
                    go_cut [48] (fun v48 wc => ∃ (kq : Nat) (x48_22 : Bool), v48 = .bool x48_22 ∧ Aside0 (stem_past.j3 kq x5_7 x48_22 = some r) ∧ Aside0 (kq ≤ kj15) ∧ Drawn0 w wc)
                    case first =>
                      have H := HC23.out
                      clear HC23
                      replace H := Option.bind_eq_some_iff.mp H
                      obtain ⟨t124, A240, H⟩ := H
                      replace H : (if t124 = true then ((strings_HasSuffix.f x5_7 (⟨#[108]⟩ : ByteArray)).bind fun t125 => (if t125 = true then (stem_past.j3 kj15 x5_7 false) else ((strings_HasSuffix.f x5_7 (⟨#[115]⟩ : ByteArray)).bind fun t126 => (if t126 = true then (stem_past.j3 kj15 x5_7 false) else ((strings_HasSuffix.f x5_7 (⟨#[122]⟩ : ByteArray)).bind fun t127 => (stem_past.j3 kj15 x5_7 (!t127))))))) else (stem_past.j3 kj15 x5_7 false)) = some r := H
                      have A24 := Aside0.mk A240
                      clear A240
                      by_cases c25 : t124 = true
                      · subst c25
                        have H1 : ((strings_HasSuffix.f x5_7 (⟨#[108]⟩ : ByteArray)).bind fun t125 => (if t125 = true then (stem_past.j3 kj15 x5_7 false) else ((strings_HasSuffix.f x5_7 (⟨#[115]⟩ : ByteArray)).bind fun t126 => (if t126 = true then (stem_past.j3 kj15 x5_7 false) else ((strings_HasSuffix.f x5_7 (⟨#[122]⟩ : ByteArray)).bind fun t127 => (stem_past.j3 kj15 x5_7 (!t127))))))) = some r := by rw [if_pos rfl] at H; exact H
                        clear H
                        have H := H1
                        clear H1
                        replace H := Option.bind_eq_some_iff.mp H
                        obtain ⟨t125, A260, H⟩ := H
                        replace H : (if t125 = true then (stem_past.j3 kj15 x5_7 false) else ((strings_HasSuffix.f x5_7 (⟨#[115]⟩ : ByteArray)).bind fun t126 => (if t126 = true then (stem_past.j3 kj15 x5_7 false) else ((strings_HasSuffix.f x5_7 (⟨#[122]⟩ : ByteArray)).bind fun t127 => (stem_past.j3 kj15 x5_7 (!t127)))))) = some r := H
                        have A26 := Aside0.mk A260
                        clear A260
                        by_cases c27 : t125 = true
                        · subst c27
                          have H1 : (stem_past.j3 kj15 x5_7 false) = some r := by rw [if_pos rfl] at H; exact H
                          clear H
                          have H := H1
                          clear H1
                          have H' := Aside0.mk H
                          clear H
                          go_wp2_with (first | ((with_reducible refine gate_callee (f := 41) rfl ?_); refine goesL_ (some 50) rfl rfl Try.func41 (by kernel_rfl) rfl #[.string x5_7] rfl (by (try simp only [List.map_toArray, List.map_cons, List.map_nil]); first | done | rfl | (simp only [List.length_drop, List.length_take]; rfl)) ?_; (with_reducible refine (stem_double.calls kj15 x5_7 true _ A24.out).mono ?_); rintro e w' ⟨rfl, ⟨nd, rfl⟩⟩; refine ⟨_, rfl, ?_⟩) | (go_at_call 40; (with_reducible refine (strings_HasSuffix.calls x5_7 (⟨#[108]⟩ : ByteArray) true _ A26.out).mono ?_); rintro e w' ⟨rfl, ⟨nd, rfl⟩⟩))
                          go_meet
                          case rel => exact ⟨_, (false), (by first | rfl | (simp; done) | (simp [*]; done)), H', ⟨by have := HJ7.out; have := HJ10.out; have := HJ15.out; first | omega | exact Nat.le_refl _⟩, by repeat (first | exact Drawn0.refl _ | apply Drawn0.step)⟩
                        · replace c27 := Bool.eq_false_iff.mpr c27
                          subst c27
                          have H1 : ((strings_HasSuffix.f x5_7 (⟨#[115]⟩ : ByteArray)).bind fun t126 => (if t126 = true then (stem_past.j3 kj15 x5_7 false) else ((strings_HasSuffix.f x5_7 (⟨#[122]⟩ : ByteArray)).bind fun t127 => (stem_past.j3 kj15 x5_7 (!t127))))) = some r := by rw [if_neg (show ¬ (false = true) by decide)] at H; exact H
                          clear H
                          have H := H1
                          clear H1
                          replace H := Option.bind_eq_some_iff.mp H
                          obtain ⟨t126, A280, H⟩ := H
                          replace H : (if t126 = true then (stem_past.j3 kj15 x5_7 false) else ((strings_HasSuffix.f x5_7 (⟨#[122]⟩ : ByteArray)).bind fun t127 => (stem_past.j3 kj15 x5_7 (!t127)))) = some r := H
                          have A28 := Aside0.mk A280
                          clear A280
                          by_cases c29 : t126 = true
                          · subst c29
                            have H1 : (stem_past.j3 kj15 x5_7 false) = some r := by rw [if_pos rfl] at H; exact H
                            clear H
                            have H := H1
                            clear H1
                            have H' := Aside0.mk H
                            clear H
                            go_wp2_with (first | ((with_reducible refine gate_callee (f := 41) rfl ?_); refine goesL_ (some 50) rfl rfl Try.func41 (by kernel_rfl) rfl #[.string x5_7] rfl (by (try simp only [List.map_toArray, List.map_cons, List.map_nil]); first | done | rfl | (simp only [List.length_drop, List.length_take]; rfl)) ?_; (with_reducible refine (stem_double.calls kj15 x5_7 true _ A24.out).mono ?_); rintro e w' ⟨rfl, ⟨nd, rfl⟩⟩; refine ⟨_, rfl, ?_⟩) | (go_at_call 40; (with_reducible refine (strings_HasSuffix.calls x5_7 (⟨#[108]⟩ : ByteArray) false _ A26.out).mono ?_); rintro e w' ⟨rfl, ⟨nd, rfl⟩⟩) | (go_at_call 40; (with_reducible refine (strings_HasSuffix.calls x5_7 (⟨#[115]⟩ : ByteArray) true _ A28.out).mono ?_); rintro e w' ⟨rfl, ⟨nd, rfl⟩⟩))
                            go_meet
                            case rel => exact ⟨_, (false), (by first | rfl | (simp; done) | (simp [*]; done)), H', ⟨by have := HJ7.out; have := HJ10.out; have := HJ15.out; first | omega | exact Nat.le_refl _⟩, by repeat (first | exact Drawn0.refl _ | apply Drawn0.step)⟩
                          · replace c29 := Bool.eq_false_iff.mpr c29
                            subst c29
                            have H1 : ((strings_HasSuffix.f x5_7 (⟨#[122]⟩ : ByteArray)).bind fun t127 => (stem_past.j3 kj15 x5_7 (!t127))) = some r := by rw [if_neg (show ¬ (false = true) by decide)] at H; exact H
                            clear H
                            have H := H1
                            clear H1
                            replace H := Option.bind_eq_some_iff.mp H
                            obtain ⟨t127, A300, H⟩ := H
                            replace H : (stem_past.j3 kj15 x5_7 (!t127)) = some r := H
                            have A30 := Aside0.mk A300
                            clear A300
                            have H' := Aside0.mk H
                            clear H
                            go_wp2_with (first | ((with_reducible refine gate_callee (f := 41) rfl ?_); refine goesL_ (some 50) rfl rfl Try.func41 (by kernel_rfl) rfl #[.string x5_7] rfl (by (try simp only [List.map_toArray, List.map_cons, List.map_nil]); first | done | rfl | (simp only [List.length_drop, List.length_take]; rfl)) ?_; (with_reducible refine (stem_double.calls kj15 x5_7 true _ A24.out).mono ?_); rintro e w' ⟨rfl, ⟨nd, rfl⟩⟩; refine ⟨_, rfl, ?_⟩) | (go_at_call 40; (with_reducible refine (strings_HasSuffix.calls x5_7 (⟨#[108]⟩ : ByteArray) false _ A26.out).mono ?_); rintro e w' ⟨rfl, ⟨nd, rfl⟩⟩) | (go_at_call 40; (with_reducible refine (strings_HasSuffix.calls x5_7 (⟨#[115]⟩ : ByteArray) false _ A28.out).mono ?_); rintro e w' ⟨rfl, ⟨nd, rfl⟩⟩) | (go_at_call 40; (with_reducible refine (strings_HasSuffix.calls x5_7 (⟨#[122]⟩ : ByteArray) t127 _ A30.out).mono ?_); rintro e w' ⟨rfl, ⟨nd, rfl⟩⟩))
                            go_meet
                            case rel => exact ⟨_, (!t127), (by first | rfl | (simp; done) | (simp [*]; done)), H', ⟨by have := HJ7.out; have := HJ10.out; have := HJ15.out; first | omega | exact Nat.le_refl _⟩, by repeat (first | exact Drawn0.refl _ | apply Drawn0.step)⟩
                      · replace c25 := Bool.eq_false_iff.mpr c25
                        subst c25
                        have H1 : (stem_past.j3 kj15 x5_7 false) = some r := by rw [if_neg (show ¬ (false = true) by decide)] at H; exact H
                        clear H
                        have H := H1
                        clear H1
                        have H' := Aside0.mk H
                        clear H
                        go_wp2_with (first | ((with_reducible refine gate_callee (f := 41) rfl ?_); refine goesL_ (some 50) rfl rfl Try.func41 (by kernel_rfl) rfl #[.string x5_7] rfl (by (try simp only [List.map_toArray, List.map_cons, List.map_nil]); first | done | rfl | (simp only [List.length_drop, List.length_take]; rfl)) ?_; (with_reducible refine (stem_double.calls kj15 x5_7 false _ A24.out).mono ?_); rintro e w' ⟨rfl, ⟨nd, rfl⟩⟩; refine ⟨_, rfl, ?_⟩))
                        go_meet
                        case rel => exact ⟨_, (false), (by first | rfl | (simp; done) | (simp [*]; done)), H', ⟨by have := HJ7.out; have := HJ10.out; have := HJ15.out; first | omega | exact Nat.le_refl _⟩, by repeat (first | exact Drawn0.refl _ | apply Drawn0.step)⟩
                    case rest =>
                      clear HC23
                      try clear c1
                      try clear c2
                      try clear p2
                      try clear c3
                      try clear c4
                      try clear c5
                      try clear c5b0
                      try clear c6
                      try clear c6b0
                      try clear c6b1
                      try clear c6b2
                      try clear c7
                      try clear c9
                      try clear c10
                      try clear c12
                      try clear c14
                      try clear c15
                      try clear c17
                      try clear c19
                      try clear c21
                      try clear c22
                      try clear c22b0
                      try clear c22b1
                      try clear c22b2
                      try clear c25
                      try clear c26
                      try clear c27
                      try clear c28
                      try clear c29
                      try clear p2
                      obtain ⟨kq, x48_22, rfl, HA, HJ22, ⟨mc22, rfl⟩⟩ := hcut
                      cases kq with
                      | zero => exact absurd HA.out (by simp [stem_past.j3])
                      | succ kj22 =>
                        have H := HA.out
                        clear HA
                        simp only [stem_past.j3] at H
                        by_cases c31 : x48_22 = true
                        · subst c31
                          have H1 : (if 0 ≤ (wrap64 ((x5_7.size : Int) - 1)) then (if (wrap64 ((x5_7.size : Int) - 1)) ≤ (x5_7.size : Int) then (some (x5_7.extract 0 ((wrap64 ((x5_7.size : Int) - 1)) : Int).toNat)) else (none)) else (none)) = some r := by rw [if_pos rfl] at H; exact H
                          clear H
                          have H := H1
                          clear H1
                          obtain ⟨ji32, hji32⟩ : ∃ j_ : Int, (wrap64 ((x5_7.size : Int) - 1)) = j_ := ⟨_, rfl⟩
                          replace H : (if 0 ≤ (ji32) then (if (ji32) ≤ (x5_7.size : Int) then (some (x5_7.extract 0 ((ji32) : Int).toNat)) else (none)) else (none)) = some r := by first | (rw [hji32] at H; exact H) | (simp only [hji32] at H ⊢; exact H)
                          have hji32w : (IntKind.i64.wrap ((x5_7.size : Int) - 1)) = ji32 := (i64_w _).trans hji32
                          by_cases c33 : 0 ≤ (ji32)
                          · rw [if_pos c33] at H
                            have c33b0 := eq_true c33
                            have c33b1 : decide (0 ≤ (ji32)) = true := decide_eq_true c33
                            clear c33
                            by_cases c34 : (ji32) ≤ (x5_7.size : Int)
                            · rw [if_pos c34] at H
                              have c34b0 := eq_true c34
                              have c34b1 : decide ((ji32) ≤ (x5_7.size : Int)) = true := decide_eq_true c34
                              clear c34
                              obtain rfl := Option.some.inj H
                              go_wp2
                              go_ret
                              exact ⟨by first | rfl | (simp; done) | (simp only [← hji32] <;> (first | rfl | simp)) | (simp [*]; done), by repeat (first | exact Drawn0.refl _ | apply Drawn0.step)⟩
                            · rw [if_neg c34] at H
                              exact absurd H (by simp)
                          · rw [if_neg c33] at H
                            exact absurd H (by simp)
                        · replace c31 := Bool.eq_false_iff.mpr c31
                          subst c31
                          have H1 : ((stem_Measure.f kj22 x5_7).bind fun t128 => (if t128 = 1 then ((stem_short.f kj22 x5_7).bind fun t129 => (if t129 = true then (if x5_7.size + 1 ≤ 9223372036854775807 then (some (x5_7 ++ (⟨#[101]⟩ : ByteArray))) else (none)) else (some x5_7))) else (some x5_7))) = some r := by rw [if_neg (show ¬ (false = true) by decide)] at H; exact H
                          clear H
                          have H := H1
                          clear H1
                          replace H := Option.bind_eq_some_iff.mp H
                          obtain ⟨t128, A350, H⟩ := H
                          replace H : (if t128 = 1 then ((stem_short.f kj22 x5_7).bind fun t129 => (if t129 = true then (if x5_7.size + 1 ≤ 9223372036854775807 then (some (x5_7 ++ (⟨#[101]⟩ : ByteArray))) else (none)) else (some x5_7))) else (some x5_7)) = some r := H
                          have A35 := Aside0.mk A350
                          clear A350
                          by_cases c36 : t128 = 1
                          · rw [if_pos c36] at H
                            have c36b0 : (t128 == 1) = true := beq_iff_eq.mpr c36
                            have c36b1 : (t128 != 1) = false := bne_eq_false_iff_eq.mpr c36
                            clear c36
                            replace H := Option.bind_eq_some_iff.mp H
                            obtain ⟨t129, A370, H⟩ := H
                            replace H : (if t129 = true then (if x5_7.size + 1 ≤ 9223372036854775807 then (some (x5_7 ++ (⟨#[101]⟩ : ByteArray))) else (none)) else (some x5_7)) = some r := H
                            have A37 := Aside0.mk A370
                            clear A370
                            by_cases c38 : t129 = true
                            · subst c38
                              have H1 : (if x5_7.size + 1 ≤ 9223372036854775807 then (some (x5_7 ++ (⟨#[101]⟩ : ByteArray))) else (none)) = some r := by rw [if_pos rfl] at H; exact H
                              clear H
                              have H := H1
                              clear H1
                              by_cases c39 : x5_7.size + 1 ≤ 9223372036854775807
                              · rw [if_pos c39] at H
                                have c39b0 := eq_true c39
                                have c39b1 : decide (x5_7.size + 1 ≤ 9223372036854775807) = true := decide_eq_true c39
                                try have c39b2 : (9223372036854775807 < x5_7.size + 1) = False := eq_false (Nat.not_lt.2 c39)
                                obtain rfl := Option.some.inj H
                                go_wp2_with (first | ((with_reducible refine gate_callee (f := 14) rfl ?_); refine goesL_ (some 73) rfl rfl Try.func14 (by kernel_rfl) rfl #[.string x5_7] rfl (by (try simp only [List.map_toArray, List.map_cons, List.map_nil]); first | done | rfl | (simp only [List.length_drop, List.length_take]; rfl)) ?_; (with_reducible refine (stem_Measure.calls kj22 x5_7 t128 _ A35.out).mono ?_); rintro e w' ⟨rfl, ⟨nd, rfl⟩⟩; refine ⟨_, rfl, ?_⟩) | (go_at_call 42; (with_reducible refine (stem_short.calls kj22 x5_7 true _ A37.out).mono ?_); rintro e w' ⟨rfl, ⟨nd, rfl⟩⟩))
                                go_ret
                                exact ⟨by first | rfl | (simp; done) | (simp [*]; done), by repeat (first | exact Drawn0.refl _ | apply Drawn0.step)⟩
                              · rw [if_neg c39] at H
                                exact absurd H (by simp)
                            · replace c38 := Bool.eq_false_iff.mpr c38
                              subst c38
                              have H1 : (some x5_7) = some r := by rw [if_neg (show ¬ (false = true) by decide)] at H; exact H
                              clear H
                              have H := H1
                              clear H1
                              obtain rfl := Option.some.inj H
                              go_wp2_with (first | ((with_reducible refine gate_callee (f := 14) rfl ?_); refine goesL_ (some 73) rfl rfl Try.func14 (by kernel_rfl) rfl #[.string x5_7] rfl (by (try simp only [List.map_toArray, List.map_cons, List.map_nil]); first | done | rfl | (simp only [List.length_drop, List.length_take]; rfl)) ?_; (with_reducible refine (stem_Measure.calls kj22 x5_7 t128 _ A35.out).mono ?_); rintro e w' ⟨rfl, ⟨nd, rfl⟩⟩; refine ⟨_, rfl, ?_⟩) | (go_at_call 42; (with_reducible refine (stem_short.calls kj22 x5_7 false _ A37.out).mono ?_); rintro e w' ⟨rfl, ⟨nd, rfl⟩⟩))
                              go_ret
                              exact ⟨by first | rfl | (simp; done) | (simp [*]; done), by repeat (first | exact Drawn0.refl _ | apply Drawn0.step)⟩
                          · rw [if_neg c36] at H
                            have c36b0 : (t128 == 1) = false := beq_eq_false_iff_ne.mpr c36
                            have c36b1 : (t128 != 1) = true := bne_iff_ne.mpr c36
                            obtain rfl := Option.some.inj H
                            go_wp2_with (first | ((with_reducible refine gate_callee (f := 14) rfl ?_); refine goesL_ (some 73) rfl rfl Try.func14 (by kernel_rfl) rfl #[.string x5_7] rfl (by (try simp only [List.map_toArray, List.map_cons, List.map_nil]); first | done | rfl | (simp only [List.length_drop, List.length_take]; rfl)) ?_; (with_reducible refine (stem_Measure.calls kj22 x5_7 t128 _ A35.out).mono ?_); rintro e w' ⟨rfl, ⟨nd, rfl⟩⟩; refine ⟨_, rfl, ?_⟩))
                            go_ret
                            exact ⟨by first | rfl | (simp; done) | (simp [*]; done), by repeat (first | exact Drawn0.refl _ | apply Drawn0.step)⟩

/-! ### stem_plural: function 27 -/
def stem_plural.j0 : Nat → ByteArray → Bool → Option (ByteArray)
  | 0, _, _ => none
  | k + 1, x0, x3 => if x3 = true then (if 0 ≤ (wrap64 ((x0.size : Int) - 2)) then (if (wrap64 ((x0.size : Int) - 2)) ≤ (x0.size : Int) then (some (x0.extract 0 ((wrap64 ((x0.size : Int) - 2)) : Int).toNat)) else (none)) else (none)) else ((strings_HasSuffix.f x0 (⟨#[115]⟩ : ByteArray)).bind fun t132 => (if t132 = true then ((strings_HasSuffix.f x0 (⟨#[115, 115]⟩ : ByteArray)).bind fun t133 => (if t133 = true then (some x0) else (if 0 ≤ (wrap64 ((x0.size : Int) - 1)) then (if (wrap64 ((x0.size : Int) - 1)) ≤ (x0.size : Int) then (some (x0.extract 0 ((wrap64 ((x0.size : Int) - 1)) : Int).toNat)) else (none)) else (none)))) else (some x0)))
def stem_plural.f (k : Nat) (a0 : ByteArray) : Option (ByteArray) := (strings_HasSuffix.f a0 (⟨#[115, 115, 101, 115]⟩ : ByteArray)).bind fun t130 => (if t130 = true then (stem_plural.j0 k a0 t130) else ((strings_HasSuffix.f a0 (⟨#[105, 101, 115]⟩ : ByteArray)).bind fun t131 => (stem_plural.j0 k a0 t131)))
theorem stem_plural.mono_l : ∀ k, (∀ y0 y1, LeO (stem_plural.j0 k y0 y1) (stem_plural.j0 (k + 1) y0 y1))
  | 0 => fun _ _ r h => by simp [stem_plural.j0] at h
  | k + 1 => by
    have ih0 := stem_plural.mono_l k
    · intro y0 y1
      unfold stem_plural.j0
      repeat' first
      | (with_reducible exact ih0 _ _)
      | (with_reducible exact LeO.refl _)
      | (with_reducible exact LeO.none _)
      | (with_reducible refine LeO.ite ?_ ?_)
      | (with_reducible refine LeO.bind ?_ (fun _ => ?_))
      | exact ih0 _ _
      | exact LeO.none _
      | refine LeO.ite ?_ ?_
      | refine LeO.bind ?_ (fun _ => ?_)
theorem stem_plural.mono : ∀ a0 k, LeO (stem_plural.f k a0) (stem_plural.f (k + 1) a0) := by
  intro a0 k
  have ih0 := stem_plural.mono_l k
  unfold stem_plural.f
  repeat' first
      | (with_reducible exact ih0 _ _)
      | (with_reducible exact LeO.refl _)
      | (with_reducible exact LeO.none _)
      | (with_reducible refine LeO.ite ?_ ?_)
      | (with_reducible refine LeO.bind ?_ (fun _ => ?_))
      | exact ih0 _ _
      | exact LeO.none _
      | refine LeO.ite ?_ ?_
      | refine LeO.bind ?_ (fun _ => ?_)
set_option maxHeartbeats 8000000 in
set_option maxRecDepth 100000 in
theorem stem_plural.calls (k : Nat) (a0 : ByteArray) (r : ByteArray) (w : World) (h : stem_plural.f k a0 = some r) :
    Calls Try.prog 27 #[.string a0] w fun e w' => e = .returned (.string r) ∧ Drawn0 w w' := by
  have H : ((strings_HasSuffix.f a0 (⟨#[115, 115, 101, 115]⟩ : ByteArray)).bind fun t130 => (if t130 = true then (stem_plural.j0 k a0 t130) else ((strings_HasSuffix.f a0 (⟨#[105, 101, 115]⟩ : ByteArray)).bind fun t131 => (stem_plural.j0 k a0 t131)))) = some r := h
  clear h
  replace H := Option.bind_eq_some_iff.mp H
  obtain ⟨t130, A20, H⟩ := H
  replace H : (if t130 = true then (stem_plural.j0 k a0 t130) else ((strings_HasSuffix.f a0 (⟨#[105, 101, 115]⟩ : ByteArray)).bind fun t131 => (stem_plural.j0 k a0 t131))) = some r := H
  have A2 := Aside0.mk A20
  clear A20
  have HC3 := Aside0.mk H
  clear H
  go_enter Try.func27, Try.ntmps27
  go_upto_if 3 with (first | ((with_reducible refine gate_callee (f := 40) rfl ?_); refine goesL_ (some 5) rfl rfl Try.func40 (by kernel_rfl) rfl #[.string a0, .string (⟨#[115, 115, 101, 115]⟩ : ByteArray)] rfl (by (try simp only [List.map_toArray, List.map_cons, List.map_nil]); first | done | rfl | (simp only [List.length_drop, List.length_take]; rfl)) ?_; (with_reducible refine (strings_HasSuffix.calls a0 (⟨#[115, 115, 101, 115]⟩ : ByteArray) t130 _ A2.out).mono ?_); rintro e w' ⟨rfl, ⟨nd, rfl⟩⟩; refine ⟨_, rfl, ?_⟩))
  (try simp only [Act.put, List.setIfInBounds_toArray, List.set_cons_zero, List.set_cons_succ])
  go_cut [3] (fun v3 wc => ∃ (kq : Nat) (x3_2 : Bool), v3 = .bool x3_2 ∧ Aside0 (stem_plural.j0 kq a0 x3_2 = some r) ∧ Aside0 (kq ≤ k) ∧ Drawn0 w wc)
  case first =>
    have H := HC3.out
    clear HC3
    by_cases c4 : t130 = true
    · subst c4
      have H1 : (stem_plural.j0 k a0 true) = some r := by rw [if_pos rfl] at H; exact H
      clear H
      have H := H1
      clear H1
      have H' := Aside0.mk H
      clear H
      go_wp2
      go_meet
      case rel => exact ⟨_, (true), (by first | rfl | (simp; done) | (simp [*]; done)), H', ⟨by first | omega | exact Nat.le_refl _⟩, by repeat (first | exact Drawn0.refl _ | apply Drawn0.step)⟩
    · replace c4 := Bool.eq_false_iff.mpr c4
      subst c4
      have H1 : ((strings_HasSuffix.f a0 (⟨#[105, 101, 115]⟩ : ByteArray)).bind fun t131 => (stem_plural.j0 k a0 t131)) = some r := by rw [if_neg (show ¬ (false = true) by decide)] at H; exact H
      clear H
      have H := H1
      clear H1
      replace H := Option.bind_eq_some_iff.mp H
      obtain ⟨t131, A50, H⟩ := H
      replace H : (stem_plural.j0 k a0 t131) = some r := H
      have A5 := Aside0.mk A50
      clear A50
      have H' := Aside0.mk H
      clear H
      go_wp2_with (first | ((with_reducible refine gate_callee (f := 40) rfl ?_); refine goesL_ (some 7) rfl rfl Try.func40 (by kernel_rfl) rfl #[.string a0, .string (⟨#[105, 101, 115]⟩ : ByteArray)] rfl (by (try simp only [List.map_toArray, List.map_cons, List.map_nil]); first | done | rfl | (simp only [List.length_drop, List.length_take]; rfl)) ?_; (with_reducible refine (strings_HasSuffix.calls a0 (⟨#[105, 101, 115]⟩ : ByteArray) t131 _ A5.out).mono ?_); rintro e w' ⟨rfl, ⟨nd, rfl⟩⟩; refine ⟨_, rfl, ?_⟩))
      go_meet
      case rel => exact ⟨_, (t131), (by first | rfl | (simp; done) | (simp [*]; done)), H', ⟨by first | omega | exact Nat.le_refl _⟩, by repeat (first | exact Drawn0.refl _ | apply Drawn0.step)⟩
  case rest =>
    clear HC3
    try clear c2
    try clear p2
    try clear c4
    obtain ⟨kq, x3_2, rfl, HA, HJ2, ⟨mc2, rfl⟩⟩ := hcut
    cases kq with
    | zero => exact absurd HA.out (by simp [stem_plural.j0])
    | succ kj2 =>
      have H := HA.out
      clear HA
      simp only [stem_plural.j0] at H
      by_cases c6 : x3_2 = true
      · subst c6
        have H1 : (if 0 ≤ (wrap64 ((a0.size : Int) - 2)) then (if (wrap64 ((a0.size : Int) - 2)) ≤ (a0.size : Int) then (some (a0.extract 0 ((wrap64 ((a0.size : Int) - 2)) : Int).toNat)) else (none)) else (none)) = some r := by rw [if_pos rfl] at H; exact H
        clear H
        have H := H1
        clear H1
        obtain ⟨ji7, hji7⟩ : ∃ j_ : Int, (wrap64 ((a0.size : Int) - 2)) = j_ := ⟨_, rfl⟩
        replace H : (if 0 ≤ (ji7) then (if (ji7) ≤ (a0.size : Int) then (some (a0.extract 0 ((ji7) : Int).toNat)) else (none)) else (none)) = some r := by first | (rw [hji7] at H; exact H) | (simp only [hji7] at H ⊢; exact H)
        have hji7w : (IntKind.i64.wrap ((a0.size : Int) - 2)) = ji7 := (i64_w _).trans hji7
        by_cases c8 : 0 ≤ (ji7)
        · rw [if_pos c8] at H
          have c8b0 := eq_true c8
          have c8b1 : decide (0 ≤ (ji7)) = true := decide_eq_true c8
          clear c8
          by_cases c9 : (ji7) ≤ (a0.size : Int)
          · rw [if_pos c9] at H
            have c9b0 := eq_true c9
            have c9b1 : decide ((ji7) ≤ (a0.size : Int)) = true := decide_eq_true c9
            clear c9
            obtain rfl := Option.some.inj H
            go_wp2
            go_ret
            exact ⟨by first | rfl | (simp; done) | (simp only [← hji7] <;> (first | rfl | simp)) | (simp [*]; done), by repeat (first | exact Drawn0.refl _ | apply Drawn0.step)⟩
          · rw [if_neg c9] at H
            exact absurd H (by simp)
        · rw [if_neg c8] at H
          exact absurd H (by simp)
      · replace c6 := Bool.eq_false_iff.mpr c6
        subst c6
        have H1 : ((strings_HasSuffix.f a0 (⟨#[115]⟩ : ByteArray)).bind fun t132 => (if t132 = true then ((strings_HasSuffix.f a0 (⟨#[115, 115]⟩ : ByteArray)).bind fun t133 => (if t133 = true then (some a0) else (if 0 ≤ (wrap64 ((a0.size : Int) - 1)) then (if (wrap64 ((a0.size : Int) - 1)) ≤ (a0.size : Int) then (some (a0.extract 0 ((wrap64 ((a0.size : Int) - 1)) : Int).toNat)) else (none)) else (none)))) else (some a0))) = some r := by rw [if_neg (show ¬ (false = true) by decide)] at H; exact H
        clear H
        have H := H1
        clear H1
        replace H := Option.bind_eq_some_iff.mp H
        obtain ⟨t132, A100, H⟩ := H
        replace H : (if t132 = true then ((strings_HasSuffix.f a0 (⟨#[115, 115]⟩ : ByteArray)).bind fun t133 => (if t133 = true then (some a0) else (if 0 ≤ (wrap64 ((a0.size : Int) - 1)) then (if (wrap64 ((a0.size : Int) - 1)) ≤ (a0.size : Int) then (some (a0.extract 0 ((wrap64 ((a0.size : Int) - 1)) : Int).toNat)) else (none)) else (none)))) else (some a0)) = some r := H
        have A10 := Aside0.mk A100
        clear A100
        by_cases c11 : t132 = true
        · subst c11
          have H1 : ((strings_HasSuffix.f a0 (⟨#[115, 115]⟩ : ByteArray)).bind fun t133 => (if t133 = true then (some a0) else (if 0 ≤ (wrap64 ((a0.size : Int) - 1)) then (if (wrap64 ((a0.size : Int) - 1)) ≤ (a0.size : Int) then (some (a0.extract 0 ((wrap64 ((a0.size : Int) - 1)) : Int).toNat)) else (none)) else (none)))) = some r := by rw [if_pos rfl] at H; exact H
          clear H
          have H := H1
          clear H1
          replace H := Option.bind_eq_some_iff.mp H
          obtain ⟨t133, A120, H⟩ := H
          replace H : (if t133 = true then (some a0) else (if 0 ≤ (wrap64 ((a0.size : Int) - 1)) then (if (wrap64 ((a0.size : Int) - 1)) ≤ (a0.size : Int) then (some (a0.extract 0 ((wrap64 ((a0.size : Int) - 1)) : Int).toNat)) else (none)) else (none))) = some r := H
          have A12 := Aside0.mk A120
          clear A120
          by_cases c13 : t133 = true
          · subst c13
            have H1 : (some a0) = some r := by rw [if_pos rfl] at H; exact H
            clear H
            have H := H1
            clear H1
            obtain rfl := Option.some.inj H
            go_wp2_with (first | ((with_reducible refine gate_callee (f := 40) rfl ?_); refine goesL_ (some 15) rfl rfl Try.func40 (by kernel_rfl) rfl #[.string a0, .string (⟨#[115]⟩ : ByteArray)] rfl (by (try simp only [List.map_toArray, List.map_cons, List.map_nil]); first | done | rfl | (simp only [List.length_drop, List.length_take]; rfl)) ?_; (with_reducible refine (strings_HasSuffix.calls a0 (⟨#[115]⟩ : ByteArray) true _ A10.out).mono ?_); rintro e w' ⟨rfl, ⟨nd, rfl⟩⟩; refine ⟨_, rfl, ?_⟩) | (go_at_call 40; (with_reducible refine (strings_HasSuffix.calls a0 (⟨#[115, 115]⟩ : ByteArray) true _ A12.out).mono ?_); rintro e w' ⟨rfl, ⟨nd, rfl⟩⟩))
            go_ret
            exact ⟨by first | rfl | (simp; done) | (simp [*]; done), by repeat (first | exact Drawn0.refl _ | apply Drawn0.step)⟩
          · replace c13 := Bool.eq_false_iff.mpr c13
            subst c13
            have H1 : (if 0 ≤ (wrap64 ((a0.size : Int) - 1)) then (if (wrap64 ((a0.size : Int) - 1)) ≤ (a0.size : Int) then (some (a0.extract 0 ((wrap64 ((a0.size : Int) - 1)) : Int).toNat)) else (none)) else (none)) = some r := by rw [if_neg (show ¬ (false = true) by decide)] at H; exact H
            clear H
            have H := H1
            clear H1
            obtain ⟨ji14, hji14⟩ : ∃ j_ : Int, (wrap64 ((a0.size : Int) - 1)) = j_ := ⟨_, rfl⟩
            replace H : (if 0 ≤ (ji14) then (if (ji14) ≤ (a0.size : Int) then (some (a0.extract 0 ((ji14) : Int).toNat)) else (none)) else (none)) = some r := by first | (rw [hji14] at H; exact H) | (simp only [hji14] at H ⊢; exact H)
            (try rw [hji14] at A10)
            (try rw [hji14] at A12)
            have hji14w : (IntKind.i64.wrap ((a0.size : Int) - 1)) = ji14 := (i64_w _).trans hji14
            by_cases c15 : 0 ≤ (ji14)
            · rw [if_pos c15] at H
              have c15b0 := eq_true c15
              have c15b1 : decide (0 ≤ (ji14)) = true := decide_eq_true c15
              clear c15
              by_cases c16 : (ji14) ≤ (a0.size : Int)
              · rw [if_pos c16] at H
                have c16b0 := eq_true c16
                have c16b1 : decide ((ji14) ≤ (a0.size : Int)) = true := decide_eq_true c16
                clear c16
                obtain rfl := Option.some.inj H
                go_wp2_with (first | ((with_reducible refine gate_callee (f := 40) rfl ?_); refine goesL_ (some 15) rfl rfl Try.func40 (by kernel_rfl) rfl #[.string a0, .string (⟨#[115]⟩ : ByteArray)] rfl (by (try simp only [List.map_toArray, List.map_cons, List.map_nil]); first | done | rfl | (simp only [List.length_drop, List.length_take]; rfl)) ?_; (with_reducible refine (strings_HasSuffix.calls a0 (⟨#[115]⟩ : ByteArray) true _ A10.out).mono ?_); rintro e w' ⟨rfl, ⟨nd, rfl⟩⟩; refine ⟨_, rfl, ?_⟩) | (go_at_call 40; (with_reducible refine (strings_HasSuffix.calls a0 (⟨#[115, 115]⟩ : ByteArray) false _ A12.out).mono ?_); rintro e w' ⟨rfl, ⟨nd, rfl⟩⟩))
                go_ret
                exact ⟨by first | rfl | (simp; done) | (simp only [← hji14] <;> (first | rfl | simp)) | (simp [*]; done), by repeat (first | exact Drawn0.refl _ | apply Drawn0.step)⟩
              · rw [if_neg c16] at H
                exact absurd H (by simp)
            · rw [if_neg c15] at H
              exact absurd H (by simp)
        · replace c11 := Bool.eq_false_iff.mpr c11
          subst c11
          have H1 : (some a0) = some r := by rw [if_neg (show ¬ (false = true) by decide)] at H; exact H
          clear H
          have H := H1
          clear H1
          obtain rfl := Option.some.inj H
          go_wp2_with (first | ((with_reducible refine gate_callee (f := 40) rfl ?_); refine goesL_ (some 15) rfl rfl Try.func40 (by kernel_rfl) rfl #[.string a0, .string (⟨#[115]⟩ : ByteArray)] rfl (by (try simp only [List.map_toArray, List.map_cons, List.map_nil]); first | done | rfl | (simp only [List.length_drop, List.length_take]; rfl)) ?_; (with_reducible refine (strings_HasSuffix.calls a0 (⟨#[115]⟩ : ByteArray) false _ A10.out).mono ?_); rintro e w' ⟨rfl, ⟨nd, rfl⟩⟩; refine ⟨_, rfl, ?_⟩))
          go_ret
          exact ⟨by first | rfl | (simp; done) | (simp [*]; done), by repeat (first | exact Drawn0.refl _ | apply Drawn0.step)⟩

end Go.Proofs.Ytnemoodjbekngaa.PStem
