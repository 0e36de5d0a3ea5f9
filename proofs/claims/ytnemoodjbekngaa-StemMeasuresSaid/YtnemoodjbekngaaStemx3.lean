/-
  What stem.fifth, turn, fourth and second compute. Conditions: those that each law states.
-/
import Derived.Test.YtnemoodjbekngaaStemx0
import Derived.Test.YtnemoodjbekngaaStemx1
namespace Go.Proofs.Ytnemoodjbekngaa.PStem
open Go.RowKit Go.Proofs.YtnemoodjbekngaaW.PrintWords Go.Proofs.YtnemoodjbekngaaW.PrintLast Go.Proofs.YtnemoodjbekngaaW.PrintMore
attribute [local go_sem] max2_int min2_int max_two min_two max_three min_three max_four min_four   -- for this text's walks alone
set_option linter.unusedVariables false
set_option linter.unusedSimpArgs false

/-! ### stem_fifth: function 30 -/
mutual
def stem_fifth.j0 : Nat → ByteArray → ByteArray → Bool → Option (ByteArray)
  | 0, _, _, _ => none
  | k + 1, x0, x3, x25 => if x25 = true then (stem_fifth.j1 k x3) else (stem_fifth.j1 k x0)
def stem_fifth.j1 : Nat → ByteArray → Option (ByteArray)
  | 0, _ => none
  | k + 1, x0 => (strings_HasSuffix.f x0 (⟨#[108, 108]⟩ : ByteArray)).bind fun t139 => (if t139 = true then (if 0 ≤ (wrap64 ((x0.size : Int) - 1)) then (if (wrap64 ((x0.size : Int) - 1)) ≤ (x0.size : Int) then ((stem_Measure.f k (x0.extract 0 ((wrap64 ((x0.size : Int) - 1)) : Int).toNat)).bind fun t140 => (if t140 > 1 then (some (x0.extract 0 ((wrap64 ((x0.size : Int) - 1)) : Int).toNat)) else (some x0))) else (none)) else (none)) else (some x0))
end
def stem_fifth.f (k : Nat) (a0 : ByteArray) : Option (ByteArray) := (strings_CutSuffix.f a0 (⟨#[101]⟩ : ByteArray)).bind fun bt134 => (if bt134.2 = true then ((stem_Measure.f k bt134.1).bind fun t136 => (if t136 > 1 then (stem_fifth.j0 k a0 bt134.1 true) else ((stem_Measure.f k bt134.1).bind fun t137 => (if t137 = 1 then ((stem_short.f k bt134.1).bind fun t138 => (stem_fifth.j0 k a0 bt134.1 (!t138))) else (stem_fifth.j0 k a0 bt134.1 false))))) else (stem_fifth.j0 k a0 bt134.1 false))
theorem stem_fifth.mono_l : ∀ k, (∀ y0 y1 y2, LeO (stem_fifth.j0 k y0 y1 y2) (stem_fifth.j0 (k + 1) y0 y1 y2)) ∧ (∀ y0, LeO (stem_fifth.j1 k y0) (stem_fifth.j1 (k + 1) y0))
  | 0 => ⟨fun _ _ _ r h => by simp [stem_fifth.j0] at h, fun _ r h => by simp [stem_fifth.j1] at h⟩
  | k + 1 => by
    obtain ⟨ih0, ih1⟩ := stem_fifth.mono_l k
    refine ⟨?_, ?_⟩
    · intro y0 y1 y2
      unfold stem_fifth.j0
      repeat' first
      | (with_reducible exact ih0 _ _ _)
      | (with_reducible exact ih1 _)
      | (with_reducible exact stem_Measure.mono _ _)
      | (with_reducible exact stem_short.mono _ _)
      | (with_reducible exact LeO.refl _)
      | (with_reducible exact LeO.none _)
      | (with_reducible refine LeO.ite ?_ ?_)
      | (with_reducible refine LeO.bind ?_ (fun _ => ?_))
      | exact ih0 _ _ _
      | exact ih1 _
      | exact stem_Measure.mono _ _
      | exact stem_short.mono _ _
      | exact LeO.none _
      | refine LeO.ite ?_ ?_
      | refine LeO.bind ?_ (fun _ => ?_)
    · intro y0
      unfold stem_fifth.j1
      repeat' first
      | (with_reducible exact ih0 _ _ _)
      | (with_reducible exact ih1 _)
      | (with_reducible exact stem_Measure.mono _ _)
      | (with_reducible exact stem_short.mono _ _)
      | (with_reducible exact LeO.refl _)
      | (with_reducible exact LeO.none _)
      | (with_reducible refine LeO.ite ?_ ?_)
      | (with_reducible refine LeO.bind ?_ (fun _ => ?_))
      | exact ih0 _ _ _
      | exact ih1 _
      | exact stem_Measure.mono _ _
      | exact stem_short.mono _ _
      | exact LeO.none _
      | refine LeO.ite ?_ ?_
      | refine LeO.bind ?_ (fun _ => ?_)
theorem stem_fifth.mono : ∀ a0 k, LeO (stem_fifth.f k a0) (stem_fifth.f (k + 1) a0) := by
  intro a0 k
  obtain ⟨ih0, ih1⟩ := stem_fifth.mono_l k
  unfold stem_fifth.f
  repeat' first
      | (with_reducible exact ih0 _ _ _)
      | (with_reducible exact ih1 _)
      | (with_reducible exact stem_Measure.mono _ _)
      | (with_reducible exact stem_short.mono _ _)
      | (with_reducible exact LeO.refl _)
      | (with_reducible exact LeO.none _)
      | (with_reducible refine LeO.ite ?_ ?_)
      | (with_reducible refine LeO.bind ?_ (fun _ => ?_))
      | exact ih0 _ _ _
      | exact ih1 _
      | exact stem_Measure.mono _ _
      | exact stem_short.mono _ _
      | exact LeO.none _
      | refine LeO.ite ?_ ?_
      | refine LeO.bind ?_ (fun _ => ?_)
set_option maxHeartbeats 8000000 in
set_option maxRecDepth 100000 in
theorem stem_fifth.calls (k : Nat) (a0 : ByteArray) (r : ByteArray) (w : World) (h : stem_fifth.f k a0 = some r) :
    Calls Try.prog 30 #[.string a0] w fun e w' => e = .returned (.string r) ∧ Drawn0 w w' := by
  have H : ((strings_CutSuffix.f a0 (⟨#[101]⟩ : ByteArray)).bind fun bt134 => (if bt134.2 = true then ((stem_Measure.f k bt134.1).bind fun t136 => (if t136 > 1 then (stem_fifth.j0 k a0 bt134.1 true) else ((stem_Measure.f k bt134.1).bind fun t137 => (if t137 = 1 then ((stem_short.f k bt134.1).bind fun t138 => (stem_fifth.j0 k a0 bt134.1 (!t138))) else (stem_fifth.j0 k a0 bt134.1 false))))) else (stem_fifth.j0 k a0 bt134.1 false))) = some r := h
  clear h
  replace H := Option.bind_eq_some_iff.mp H
  obtain ⟨⟨t134, t135⟩, A20, H⟩ := H
  replace H : (if t135 = true then ((stem_Measure.f k t134).bind fun t136 => (if t136 > 1 then (stem_fifth.j0 k a0 t134 true) else ((stem_Measure.f k t134).bind fun t137 => (if t137 = 1 then ((stem_short.f k t134).bind fun t138 => (stem_fifth.j0 k a0 t134 (!t138))) else (stem_fifth.j0 k a0 t134 false))))) else (stem_fifth.j0 k a0 t134 false)) = some r := H
  have A2 := Aside0.mk A20
  clear A20
  have HC3 := Aside0.mk H
  clear H
  go_enter Try.func30, Try.ntmps30
  go_upto_region 2 with (first | ((with_reducible refine gate_callee (f := 28) rfl ?_); refine goesL_ (some 7) rfl rfl Try.func28 (by kernel_rfl) rfl #[.string a0, .string (⟨#[101]⟩ : ByteArray)] rfl (by (try simp only [List.map_toArray, List.map_cons, List.map_nil]); first | done | rfl | (simp only [List.length_drop, List.length_take]; rfl)) ?_; (with_reducible refine (strings_CutSuffix.calls a0 (⟨#[101]⟩ : ByteArray) t134 t135 _ A2.out).mono ?_); rintro e w' ⟨rfl, ⟨nd, rfl⟩⟩; refine ⟨_, rfl, ?_⟩))
  (try simp only [Act.put, List.setIfInBounds_toArray, List.set_cons_zero, List.set_cons_succ])
  go_cut [25] (fun v25 wc => ∃ (kq : Nat) (x25_2 : Bool), v25 = .bool x25_2 ∧ Aside0 (stem_fifth.j0 kq a0 t134 x25_2 = some r) ∧ Aside0 (kq ≤ k) ∧ Drawn0 w wc)
  case first =>
    have H := HC3.out
    clear HC3
    by_cases c4 : t135 = true
    · subst c4
      have H1 : ((stem_Measure.f k t134).bind fun t136 => (if t136 > 1 then (stem_fifth.j0 k a0 t134 true) else ((stem_Measure.f k t134).bind fun t137 => (if t137 = 1 then ((stem_short.f k t134).bind fun t138 => (stem_fifth.j0 k a0 t134 (!t138))) else (stem_fifth.j0 k a0 t134 false))))) = some r := by rw [if_pos rfl] at H; exact H
      clear H
      have H := H1
      clear H1
      replace H := Option.bind_eq_some_iff.mp H
      obtain ⟨t136, A50, H⟩ := H
      replace H : (if t136 > 1 then (stem_fifth.j0 k a0 t134 true) else ((stem_Measure.f k t134).bind fun t137 => (if t137 = 1 then ((stem_short.f k t134).bind fun t138 => (stem_fifth.j0 k a0 t134 (!t138))) else (stem_fifth.j0 k a0 t134 false)))) = some r := H
      have A5 := Aside0.mk A50
      clear A50
      by_cases c6 : t136 > 1
      · rw [if_pos c6] at H
        have c6b0 : decide (1 < t136) = true := decide_eq_true c6
        clear c6
        (first | rw [c6b0] | (simp only [i64_w, i32_w]; rw [c6b0]) | skip)
        have H' := Aside0.mk H
        clear H
        go_wp2_with (first | (go_at_call 14; (with_reducible refine (stem_Measure.calls k t134 t136 _ A5.out).mono ?_); rintro e w' ⟨rfl, ⟨nd, rfl⟩⟩))
        go_meet
        case rel => exact ⟨_, (true), (by first | rfl | (simp; done) | (simp [*]; done)), H', ⟨by first | omega | exact Nat.le_refl _⟩, by repeat (first | exact Drawn0.refl _ | apply Drawn0.step)⟩
      · rw [if_neg c6] at H
        have c6b0 : decide (1 < t136) = false := decide_eq_false c6
        clear c6
        (first | rw [c6b0] | (simp only [i64_w, i32_w]; rw [c6b0]) | skip)
        replace H := Option.bind_eq_some_iff.mp H
        obtain ⟨t137, A70, H⟩ := H
        replace H : (if t137 = 1 then ((stem_short.f k t134).bind fun t138 => (stem_fifth.j0 k a0 t134 (!t138))) else (stem_fifth.j0 k a0 t134 false)) = some r := H
        have A7 := Aside0.mk A70
        clear A70
        obtain rfl : t136 = t137 := Option.some.inj (A5.out.symm.trans A7.out)
        by_cases c8 : t136 = 1
        · rw [if_pos c8] at H
          have c8b0 : (t136 == 1) = true := beq_iff_eq.mpr c8
          have c8b1 : (t136 != 1) = false := bne_eq_false_iff_eq.mpr c8
          clear c8
          replace H := Option.bind_eq_some_iff.mp H
          obtain ⟨t138, A90, H⟩ := H
          replace H : (stem_fifth.j0 k a0 t134 (!t138)) = some r := H
          have A9 := Aside0.mk A90
          clear A90
          have H' := Aside0.mk H
          clear H
          go_wp2_with (first | (go_at_call 14; (with_reducible refine (stem_Measure.calls k t134 t136 _ A5.out).mono ?_); rintro e w' ⟨rfl, ⟨nd, rfl⟩⟩) | (go_at_call 14; (with_reducible refine (stem_Measure.calls k t134 t137 _ A7.out).mono ?_); rintro e w' ⟨rfl, ⟨nd, rfl⟩⟩) | (go_at_call 42; (with_reducible refine (stem_short.calls k t134 t138 _ A9.out).mono ?_); rintro e w' ⟨rfl, ⟨nd, rfl⟩⟩))
          go_meet
          case rel => exact ⟨_, (!t138), (by first | rfl | (simp; done) | (simp [*]; done)), H', ⟨by first | omega | exact Nat.le_refl _⟩, by repeat (first | exact Drawn0.refl _ | apply Drawn0.step)⟩
        · rw [if_neg c8] at H
          have c8b0 : (t136 == 1) = false := beq_eq_false_iff_ne.mpr c8
          have c8b1 : (t136 != 1) = true := bne_iff_ne.mpr c8
          have H' := Aside0.mk H
          clear H
          go_wp2_with (first | (go_at_call 14; (with_reducible refine (stem_Measure.calls k t134 t136 _ A5.out).mono ?_); rintro e w' ⟨rfl, ⟨nd, rfl⟩⟩) | (go_at_call 14; (with_reducible refine (stem_Measure.calls k t134 t137 _ A7.out).mono ?_); rintro e w' ⟨rfl, ⟨nd, rfl⟩⟩))
          go_meet
          case rel => exact ⟨_, (false), (by first | rfl | (simp; done) | (simp [*]; done)), H', ⟨by first | omega | exact Nat.le_refl _⟩, by repeat (first | exact Drawn0.refl _ | apply Drawn0.step)⟩
    · replace c4 := Bool.eq_false_iff.mpr c4
      subst c4
      have H1 : (stem_fifth.j0 k a0 t134 false) = some r := by rw [if_neg (show ¬ (false = true) by decide)] at H; exact H
      clear H
      have H := H1
      clear H1
      have H' := Aside0.mk H
      clear H
      go_wp2
      go_meet
      case rel => exact ⟨_, (false), (by first | rfl | (simp; done) | (simp [*]; done)), H', ⟨by first | omega | exact Nat.le_refl _⟩, by repeat (first | exact Drawn0.refl _ | apply Drawn0.step)⟩
  case rest =>
    clear HC3
    try clear c2
    try clear p2
    try clear c3
    try clear c4
    try clear c6
    try clear c6b0
    try clear c8
    try clear c8b0
    try clear c8b1
    obtain ⟨kq, x25_2, rfl, HA, HJ2, ⟨mc2, rfl⟩⟩ := hcut
    cases kq with
    | zero => exact absurd HA.out (by simp [stem_fifth.j0])
    | succ kj2 =>
      have H := HA.out
      clear HA
      simp only [stem_fifth.j0] at H
      have HC10 := Aside0.mk H
      clear H
      go_upto_if 25 with (fail)
      go_cut [0] (fun v0 wc => ∃ (kq : Nat) (x0_9 : ByteArray), v0 = .string x0_9 ∧ Aside0 (stem_fifth.j1 kq x0_9 = some r) ∧ Aside0 (kq ≤ kj2) ∧ Drawn0 w wc)
      case first =>
        have H := HC10.out
        clear HC10
        by_cases c11 : x25_2 = true
        · subst c11
          have H1 : (stem_fifth.j1 kj2 t134) = some r := by rw [if_pos rfl] at H; exact H
          clear H
          have H := H1
          clear H1
          have H' := Aside0.mk H
          clear H
          go_wp2
          go_meet
          case rel => exact ⟨_, (t134), (by first | rfl | (simp; done) | (simp [*]; done)), H', ⟨by have := HJ2.out; first | omega | exact Nat.le_refl _⟩, by repeat (first | exact Drawn0.refl _ | apply Drawn0.step)⟩
        · replace c11 := Bool.eq_false_iff.mpr c11
          subst c11
          have H1 : (stem_fifth.j1 kj2 a0) = some r := by rw [if_neg (show ¬ (false = true) by decide)] at H; exact H
          clear H
          have H := H1
          clear H1
          have H' := Aside0.mk H
          clear H
          go_wp2
          go_meet
          case rel => exact ⟨_, (a0), (by first | rfl | (simp; done) | (simp [*]; done)), H', ⟨by have := HJ2.out; first | omega | exact Nat.le_refl _⟩, by repeat (first | exact Drawn0.refl _ | apply Drawn0.step)⟩
      case rest =>
        clear HC10
        try clear c1
        try clear c2
        try clear p2
        try clear c3
        try clear c4
        try clear c6
        try clear c6b0
        try clear c8
        try clear c8b0
        try clear c8b1
        try clear c11
        try clear p2
        obtain ⟨kq, x0_9, rfl, HA, HJ9, ⟨mc9, rfl⟩⟩ := hcut
        cases kq with
        | zero => exact absurd HA.out (by simp [stem_fifth.j1])
        | succ kj9 =>
          have H := HA.out
          clear HA
          simp only [stem_fifth.j1] at H
          replace H := Option.bind_eq_some_iff.mp H
          obtain ⟨t139, A120, H⟩ := H
          replace H : (if t139 = true then (if 0 ≤ (wrap64 ((x0_9.size : Int) - 1)) then (if (wrap64 ((x0_9.size : Int) - 1)) ≤ (x0_9.size : Int) then ((stem_Measure.f kj9 (x0_9.extract 0 ((wrap64 ((x0_9.size : Int) - 1)) : Int).toNat)).bind fun t140 => (if t140 > 1 then (some (x0_9.extract 0 ((wrap64 ((x0_9.size : Int) - 1)) : Int).toNat)) else (some x0_9))) else (none)) else (none)) else (some x0_9)) = some r := H
          have A12 := Aside0.mk A120
          clear A120
          by_cases c13 : t139 = true
          · subst c13
            have H1 : (if 0 ≤ (wrap64 ((x0_9.size : Int) - 1)) then (if (wrap64 ((x0_9.size : Int) - 1)) ≤ (x0_9.size : Int) then ((stem_Measure.f kj9 (x0_9.extract 0 ((wrap64 ((x0_9.size : Int) - 1)) : Int).toNat)).bind fun t140 => (if t140 > 1 then (some (x0_9.extract 0 ((wrap64 ((x0_9.size : Int) - 1)) : Int).toNat)) else (some x0_9))) else (none)) else (none)) = some r := by rw [if_pos rfl] at H; exact H
            clear H
            have H := H1
            clear H1
            obtain ⟨ji14, hji14⟩ : ∃ j_ : Int, (wrap64 ((x0_9.size : Int) - 1)) = j_ := ⟨_, rfl⟩
            replace H : (if 0 ≤ (ji14) then (if (ji14) ≤ (x0_9.size : Int) then ((stem_Measure.f kj9 (x0_9.extract 0 ((ji14) : Int).toNat)).bind fun t140 => (if t140 > 1 then (some (x0_9.extract 0 ((ji14) : Int).toNat)) else (some x0_9))) else (none)) else (none)) = some r := by first | (rw [hji14] at H; exact H) | (simp only [hji14] at H ⊢; exact H)
            (try rw [hji14] at A12)
            have hji14w : (IntKind.i64.wrap ((x0_9.size : Int) - 1)) = ji14 := (i64_w _).trans hji14
            by_cases c15 : 0 ≤ (ji14)
            · rw [if_pos c15] at H
              have c15b0 := eq_true c15
              have c15b1 : decide (0 ≤ (ji14)) = true := decide_eq_true c15
              clear c15
              by_cases c16 : (ji14) ≤ (x0_9.size : Int)
              · rw [if_pos c16] at H
                have c16b0 := eq_true c16
                have c16b1 : decide ((ji14) ≤ (x0_9.size : Int)) = true := decide_eq_true c16
                clear c16
                replace H := Option.bind_eq_some_iff.mp H
                obtain ⟨t140, A170, H⟩ := H
                replace H : (if t140 > 1 then (some (x0_9.extract 0 ((ji14) : Int).toNat)) else (some x0_9)) = some r := H
                have A17 := Aside0.mk A170
                clear A170
                by_cases c18 : t140 > 1
                · rw [if_pos c18] at H
                  have c18b0 : decide (1 < t140) = true := decide_eq_true c18
                  clear c18
                  have c19b0 := eq_true (of_decide_eq_true (by first | (with_reducible assumption) | assumption) : 0 ≤ (ji14))
                  have c20b0 := eq_true (of_decide_eq_true (by first | (with_reducible assumption) | assumption) : (ji14) ≤ (x0_9.size : Int))
                  obtain rfl := Option.some.inj H
                  go_wp2_with (first | ((with_reducible refine gate_callee (f := 40) rfl ?_); refine goesL_ (some 28) rfl rfl Try.func40 (by kernel_rfl) rfl #[.string x0_9, .string (⟨#[108, 108]⟩ : ByteArray)] rfl (by (try simp only [List.map_toArray, List.map_cons, List.map_nil]); first | done | rfl | (simp only [List.length_drop, List.length_take]; rfl)) ?_; (with_reducible refine (strings_HasSuffix.calls x0_9 (⟨#[108, 108]⟩ : ByteArray) true _ A12.out).mono ?_); rintro e w' ⟨rfl, ⟨nd, rfl⟩⟩; refine ⟨_, rfl, ?_⟩) | (go_at_call 14; (with_reducible refine (stem_Measure.calls kj9 (x0_9.extract 0 ((ji14) : Int).toNat) t140 _ A17.out).mono ?_); rintro e w' ⟨rfl, ⟨nd, rfl⟩⟩))
                  go_ret
                  exact ⟨by first | rfl | (simp; done) | (simp only [← hji14] <;> (first | rfl | simp)) | (simp [*]; done), by repeat (first | exact Drawn0.refl _ | apply Drawn0.step)⟩
                · rw [if_neg c18] at H
                  have c18b0 : decide (1 < t140) = false := decide_eq_false c18
                  clear c18
                  obtain rfl := Option.some.inj H
                  go_wp2_with (first | ((with_reducible refine gate_callee (f := 40) rfl ?_); refine goesL_ (some 28) rfl rfl Try.func40 (by kernel_rfl) rfl #[.string x0_9, .string (⟨#[108, 108]⟩ : ByteArray)] rfl (by (try simp only [List.map_toArray, List.map_cons, List.map_nil]); first | done | rfl | (simp only [List.length_drop, List.length_take]; rfl)) ?_; (with_reducible refine (strings_HasSuffix.calls x0_9 (⟨#[108, 108]⟩ : ByteArray) true _ A12.out).mono ?_); rintro e w' ⟨rfl, ⟨nd, rfl⟩⟩; refine ⟨_, rfl, ?_⟩) | (go_at_call 14; (with_reducible refine (stem_Measure.calls kj9 (x0_9.extract 0 ((ji14) : Int).toNat) t140 _ A17.out).mono ?_); rintro e w' ⟨rfl, ⟨nd, rfl⟩⟩))
                  go_ret
                  exact ⟨by first | rfl | (simp; done) | (simp only [← hji14] <;> (first | rfl | simp)) | (simp [*]; done), by repeat (first | exact Drawn0.refl _ | apply Drawn0.step)⟩
              · rw [if_neg c16] at H
                exact absurd H (by simp)
            · rw [if_neg c15] at H
              exact absurd H (by simp)
          · replace c13 := Bool.eq_false_iff.mpr c13
            subst c13
            have H1 : (some x0_9) = some r := by rw [if_neg (show ¬ (false = true) by decide)] at H; exact H
            clear H
            have H := H1
            clear H1
            obtain rfl := Option.some.inj H
            go_wp2_with (first | ((with_reducible refine gate_callee (f := 40) rfl ?_); refine goesL_ (some 28) rfl rfl Try.func40 (by kernel_rfl) rfl #[.string x0_9, .string (⟨#[108, 108]⟩ : ByteArray)] rfl (by (try simp only [List.map_toArray, List.map_cons, List.map_nil]); first | done | rfl | (simp only [List.length_drop, List.length_take]; rfl)) ?_; (with_reducible refine (strings_HasSuffix.calls x0_9 (⟨#[108, 108]⟩ : ByteArray) false _ A12.out).mono ?_); rintro e w' ⟨rfl, ⟨nd, rfl⟩⟩; refine ⟨_, rfl, ?_⟩))
            go_ret
            exact ⟨by first | rfl | (simp; done) | (simp [*]; done), by repeat (first | exact Drawn0.refl _ | apply Drawn0.step)⟩

/-! ### stem_turn: function 44 -/
def stem_turn.l0 : Nat → ByteArray → Int → List (S61) → Int → Int → Option (ByteArray × Bool)
  | 0, _, _, _, _, _ => none
  | k + 1, x0, x1, x12, x13, x14 => if x14 < x13 then (if 0 ≤ x14 then (if x14 < (x12.length : Int) then ((strings_CutSuffix.f x0 ((rd_T61 x12 x14).f0)).bind fun bt143 => (if bt143.2 = true then ((stem_Measure.f k bt143.1).bind fun t145 => (if t145 > x1 then (if bt143.1.size + ((rd_T61 x12 x14).f1).size ≤ 9223372036854775807 then (some (bt143.1 ++ ((rd_T61 x12 x14).f1), true)) else (none)) else (some (x0, true)))) else (stem_turn.l0 k x0 x1 x12 x13 (wrap64 (x14 + 1))))) else (none)) else (none)) else (some (x0, false))
def stem_turn.f (k : Nat) (a0 : ByteArray) (a1 : Int) (l2 : List (S61)) : Option (ByteArray × Bool) := stem_turn.l0 k a0 a1 l2 (l2.length : Int) 0
theorem stem_turn.mono_l : ∀ k, (∀ y0 y1 y2 y3 y4, LeO (stem_turn.l0 k y0 y1 y2 y3 y4) (stem_turn.l0 (k + 1) y0 y1 y2 y3 y4))
  | 0 => fun _ _ _ _ _ r h => by simp [stem_turn.l0] at h
  | k + 1 => by
    have ih0 := stem_turn.mono_l k
    · intro y0 y1 y2 y3 y4
      unfold stem_turn.l0
      repeat' first
      | (with_reducible exact ih0 _ _ _ _ _)
      | (with_reducible exact stem_Measure.mono _ _)
      | (with_reducible exact LeO.refl _)
      | (with_reducible exact LeO.none _)
      | (with_reducible refine LeO.ite ?_ ?_)
      | (with_reducible refine LeO.bind ?_ (fun _ => ?_))
      | exact ih0 _ _ _ _ _
      | exact stem_Measure.mono _ _
      | exact LeO.none _
      | refine LeO.ite ?_ ?_
      | refine LeO.bind ?_ (fun _ => ?_)
theorem stem_turn.mono : ∀ a0 a1 a2 k, LeO (stem_turn.f k a0 a1 a2) (stem_turn.f (k + 1) a0 a1 a2) := by
  intro a0 a1 a2 k
  have ih0 := stem_turn.mono_l k
  unfold stem_turn.f
  repeat' first
      | (with_reducible exact ih0 _ _ _ _ _)
      | (with_reducible exact stem_Measure.mono _ _)
      | (with_reducible exact LeO.refl _)
      | (with_reducible exact LeO.none _)
      | (with_reducible refine LeO.ite ?_ ?_)
      | (with_reducible refine LeO.bind ?_ (fun _ => ?_))
      | exact ih0 _ _ _ _ _
      | exact stem_Measure.mono _ _
      | exact LeO.none _
      | refine LeO.ite ?_ ?_
      | refine LeO.bind ?_ (fun _ => ?_)
set_option maxHeartbeats 8000000 in
set_option maxRecDepth 100000 in
theorem stem_turn.calls (k : Nat) (a0 : ByteArray) (a1 : Int) (A2 : Option Addr) (c2 : Nat) (l2 : List (S61)) (r1 : ByteArray) (r2 : Bool) (w : World) (hr2 : Kd.C k61 w A2 l2.length l2) (hc2 : l2.length ≤ c2) (h : stem_turn.f k a0 a1 l2 = some (r1, r2)) :
    Calls Try.prog 44 #[.string a0, .int .i64 a1, .slice A2 l2.length c2] w fun e w' => e = .returned (.tuple #[.string r1, .bool r2]) ∧ Below w.heap.size w w' := by
  have hu61 := Try.underlying61
  have HR2 := Aside0.mk hr2
  have HC2 := Aside0.mk hc2
  clear hr2 hc2
  have HB := Aside0.mk (Below.refl w.heap.size w)
  have H : (stem_turn.l0 k a0 a1 l2 (l2.length : Int) 0) = some (r1, r2) := h
  clear h
  have H' := Aside0.mk H
  clear H
  go_enter Try.func44, Try.ntmps44
  go_wp2
  go_loopg [14] k (fun kq v14 w' => ∃ (x14_1 : Int), v14 = .int .i64 x14_1 ∧ Aside0 (stem_turn.l0 kq a0 a1 l2 (l2.length : Int) x14_1 = some (r1, r2)) ∧ Aside0 (kq ≤ k) ∧ Aside0 (Below w.heap.size w w'))
  case atStart => exact ⟨(0), (by first | rfl | (simp; done) | (simp [*]; done)), H', ⟨Nat.le_refl _⟩, ⟨by repeat (first | (with_reducible first | exact HB.out | apply below_alloc | apply pw_below_drewN | apply below_drew1) | exact HB.out)⟩⟩
  case round =>
    clear H'
    try clear c2
    try clear p2
    obtain ⟨x14_1, rfl, HA, HK1, HB⟩ := hrel
    cases gk with
    | zero => exact absurd HA.out (by simp [stem_turn.l0])
    | succ k1 =>
      have H := HA.out
      clear HA
      simp only [stem_turn.l0] at H
      by_cases c4 : x14_1 < (l2.length : Int)
      · rw [if_pos c4] at H
        have c4b0 : decide (x14_1 < (l2.length : Int)) = true := decide_eq_true c4
        clear c4
        by_cases c5 : 0 ≤ x14_1
        · rw [if_pos c5] at H
          have c5b0 : decide (0 ≤ x14_1) = true := decide_eq_true c5
          clear c5
          by_cases c6 : x14_1 < (l2.length : Int)
          · rw [if_pos c6] at H
            have c6b0 : decide (x14_1 < (l2.length : Int)) = true := decide_eq_true c6
            clear c6
            replace H := Option.bind_eq_some_iff.mp H
            obtain ⟨⟨t143, t144⟩, A70, H⟩ := H
            replace H : (if t144 = true then ((stem_Measure.f k1 t143).bind fun t145 => (if t145 > a1 then (if t143.size + ((rd_T61 l2 x14_1).f1).size ≤ 9223372036854775807 then (some (t143 ++ ((rd_T61 l2 x14_1).f1), true)) else (none)) else (some (a0, true)))) else (stem_turn.l0 k1 a0 a1 l2 (l2.length : Int) (wrap64 (x14_1 + 1)))) = some (r1, r2) := H
            have A7 := Aside0.mk A70
            clear A70
            by_cases c8 : t144 = true
            · subst c8
              have H1 : ((stem_Measure.f k1 t143).bind fun t145 => (if t145 > a1 then (if t143.size + ((rd_T61 l2 x14_1).f1).size ≤ 9223372036854775807 then (some (t143 ++ ((rd_T61 l2 x14_1).f1), true)) else (none)) else (some (a0, true)))) = some (r1, r2) := by rw [if_pos rfl] at H; exact H
              clear H
              have H := H1
              clear H1
              replace H := Option.bind_eq_some_iff.mp H
              obtain ⟨t145, A90, H⟩ := H
              replace H : (if t145 > a1 then (if t143.size + ((rd_T61 l2 x14_1).f1).size ≤ 9223372036854775807 then (some (t143 ++ ((rd_T61 l2 x14_1).f1), true)) else (none)) else (some (a0, true))) = some (r1, r2) := H
              have A9 := Aside0.mk A90
              clear A90
              by_cases c10 : t145 > a1
              · rw [if_pos c10] at H
                have c10b0 : decide (a1 < t145) = true := decide_eq_true c10
                clear c10
                by_cases c11 : t143.size + ((rd_T61 l2 x14_1).f1).size ≤ 9223372036854775807
                · rw [if_pos c11] at H
                  have c11b0 := eq_true c11
                  have c11b1 : decide (t143.size + ((rd_T61 l2 x14_1).f1).size ≤ 9223372036854775807) = true := decide_eq_true c11
                  try have c11b2 : (9223372036854775807 < t143.size + ((rd_T61 l2 x14_1).f1).size) = False := eq_false (Nat.not_lt.2 c11)
                  simp only [Option.some.injEq, Prod.mk.injEq] at H
                  obtain ⟨rfl, rfl⟩ := H
                  have p141 : 0 ≤ (x14_1 : Int) := of_decide_eq_true (by first | (with_reducible assumption) | assumption)
                  have q141 : x14_1 < (l2.length : Int) := of_decide_eq_true (by first | (with_reducible assumption) | assumption)
                  obtain ⟨ad141, e141, hx141_0, hx141_1⟩ := at_T61 HR2.out x14_1 p141 q141
                  cases e141
                  replace hx141_0 := (HB.out.cell (World.block_lt_of_cell? w _ hx141_0)).trans hx141_0
                  replace hx141_1 := (HB.out.cell (World.block_lt_of_cell? w _ hx141_1)).trans hx141_1
                  replace p141 := eq_true p141
                  replace q141 := eq_true q141
                  go_wp2_with (first | ((with_reducible refine gate_dst (N := 9) rfl ?_); refine box_event ?hg (N := 9) ?hd (cs := #[.string (⟨#[]⟩ : ByteArray), .string (⟨#[]⟩ : ByteArray)]) (t := 61) ?hr ?_; (case hd => rfl); (case hg => rfl); (case hr => first | (go_simp; done) | (go_simp; rfl)); intro gb142 hg w12 hbox hb; have n0_ := Aside0.mk (below_step (by repeat (first | (with_reducible first | exact HB.out | apply below_alloc | apply pw_below_drewN | apply below_drew1) | exact HB.out)) hb); have n1_ := Aside0.mk (hbox); have n2_ := Aside0.mk ((by rw [hg]; exact (below_size (by repeat (first | (with_reducible first | exact HB.out | apply below_alloc | apply pw_below_drewN | apply below_drew1) | exact HB.out))) : w.heap.size ≤ gb142)); have n3_ := Aside0.mk ((by rw [hg]; exact (below_size (by repeat (first | (with_reducible first | exact HB.out | apply below_alloc | apply pw_below_drewN | apply below_drew1) | exact HB.out))) : w.heap.size ≤ gb142)); clear HB; have HB := n0_; have BK142 := n1_; have GW142 := n2_; have GE142 := n3_; clear n0_ n1_ n2_ n3_; clear hb hbox hg; have hcz13_0 : w12.cell? ⟨gb142, 0, none⟩ = some (.string (⟨#[]⟩ : ByteArray)) := (blk_cell BK142.out 0).trans rfl; have hcz13_1 : w12.cell? ⟨gb142, 1, none⟩ = some (.string (⟨#[]⟩ : ByteArray)) := (blk_cell BK142.out 1).trans rfl; have hfz13_0 := blk_frozen BK142.out 0; have hfz13_1 := blk_frozen BK142.out 1) | ((with_reducible refine gate_callee (f := 28) rfl ?_); refine goesL_ (some 22) rfl rfl Try.func28 (by kernel_rfl) rfl #[.string a0, .string ((rd_T61 l2 x14_1).f0)] rfl (by (try simp only [List.map_toArray, List.map_cons, List.map_nil]); first | done | rfl | (simp only [List.length_drop, List.length_take]; rfl)) ?_; (with_reducible refine (strings_CutSuffix.calls a0 ((rd_T61 l2 x14_1).f0) t143 true _ A7.out).mono ?_); rintro e w' ⟨rfl, ⟨nd, rfl⟩⟩; refine ⟨_, rfl, ?_⟩) | ((with_reducible refine gate_callee (f := 14) rfl ?_); refine goesL_ (some 28) rfl rfl Try.func14 (by kernel_rfl) rfl #[.string t143] rfl (by (try simp only [List.map_toArray, List.map_cons, List.map_nil]); first | done | rfl | (simp only [List.length_drop, List.length_take]; rfl)) ?_; (with_reducible refine (stem_Measure.calls k1 t143 t145 _ A9.out).mono ?_); rintro e w' ⟨rfl, ⟨nd, rfl⟩⟩; refine ⟨_, rfl, ?_⟩))
                  go_ret2
                  exact ⟨by first | rfl | (simp [errW_none, errW_some] <;> rfl) | (simp [*, errW_none, errW_some] <;> rfl), by repeat (first | (with_reducible first | exact HB.out | apply below_alloc | apply pw_below_drewN | apply below_drew1 | refine below_set ?_ GE142.out) | exact HB.out)⟩
                · rw [if_neg c11] at H
                  exact absurd H (by simp)
              · rw [if_neg c10] at H
                have c10b0 : decide (a1 < t145) = false := decide_eq_false c10
                clear c10
                simp only [Option.some.injEq, Prod.mk.injEq] at H
                obtain ⟨rfl, rfl⟩ := H
                have p141 : 0 ≤ (x14_1 : Int) := of_decide_eq_true (by first | (with_reducible assumption) | assumption)
                have q141 : x14_1 < (l2.length : Int) := of_decide_eq_true (by first | (with_reducible assumption) | assumption)
                obtain ⟨ad141, e141, hx141_0, hx141_1⟩ := at_T61 HR2.out x14_1 p141 q141
                cases e141
                replace hx141_0 := (HB.out.cell (World.block_lt_of_cell? w _ hx141_0)).trans hx141_0
                replace hx141_1 := (HB.out.cell (World.block_lt_of_cell? w _ hx141_1)).trans hx141_1
                replace p141 := eq_true p141
                replace q141 := eq_true q141
                go_wp2_with (first | ((with_reducible refine gate_dst (N := 9) rfl ?_); refine box_event ?hg (N := 9) ?hd (cs := #[.string (⟨#[]⟩ : ByteArray), .string (⟨#[]⟩ : ByteArray)]) (t := 61) ?hr ?_; (case hd => rfl); (case hg => rfl); (case hr => first | (go_simp; done) | (go_simp; rfl)); intro gb142 hg w14 hbox hb; have n0_ := Aside0.mk (below_step (by repeat (first | (with_reducible first | exact HB.out | apply below_alloc | apply pw_below_drewN | apply below_drew1) | exact HB.out)) hb); have n1_ := Aside0.mk (hbox); have n2_ := Aside0.mk ((by rw [hg]; exact (below_size (by repeat (first | (with_reducible first | exact HB.out | apply below_alloc | apply pw_below_drewN | apply below_drew1) | exact HB.out))) : w.heap.size ≤ gb142)); have n3_ := Aside0.mk ((by rw [hg]; exact (below_size (by repeat (first | (with_reducible first | exact HB.out | apply below_alloc | apply pw_below_drewN | apply below_drew1) | exact HB.out))) : w.heap.size ≤ gb142)); clear HB; have HB := n0_; have BK142 := n1_; have GW142 := n2_; have GE142 := n3_; clear n0_ n1_ n2_ n3_; clear hb hbox hg; have hcz15_0 : w14.cell? ⟨gb142, 0, none⟩ = some (.string (⟨#[]⟩ : ByteArray)) := (blk_cell BK142.out 0).trans rfl; have hcz15_1 : w14.cell? ⟨gb142, 1, none⟩ = some (.string (⟨#[]⟩ : ByteArray)) := (blk_cell BK142.out 1).trans rfl; have hfz15_0 := blk_frozen BK142.out 0; have hfz15_1 := blk_frozen BK142.out 1) | ((with_reducible refine gate_callee (f := 28) rfl ?_); refine goesL_ (some 22) rfl rfl Try.func28 (by kernel_rfl) rfl #[.string a0, .string ((rd_T61 l2 x14_1).f0)] rfl (by (try simp only [List.map_toArray, List.map_cons, List.map_nil]); first | done | rfl | (simp only [List.length_drop, List.length_take]; rfl)) ?_; (with_reducible refine (strings_CutSuffix.calls a0 ((rd_T61 l2 x14_1).f0) t143 true _ A7.out).mono ?_); rintro e w' ⟨rfl, ⟨nd, rfl⟩⟩; refine ⟨_, rfl, ?_⟩) | ((with_reducible refine gate_callee (f := 14) rfl ?_); refine goesL_ (some 28) rfl rfl Try.func14 (by kernel_rfl) rfl #[.string t143] rfl (by (try simp only [List.map_toArray, List.map_cons, List.map_nil]); first | done | rfl | (simp only [List.length_drop, List.length_take]; rfl)) ?_; (with_reducible refine (stem_Measure.calls k1 t143 t145 _ A9.out).mono ?_); rintro e w' ⟨rfl, ⟨nd, rfl⟩⟩; refine ⟨_, rfl, ?_⟩))
                go_ret2
                exact ⟨by first | rfl | (simp [errW_none, errW_some] <;> rfl) | (simp [*, errW_none, errW_some] <;> rfl), by repeat (first | (with_reducible first | exact HB.out | apply below_alloc | apply pw_below_drewN | apply below_drew1 | refine below_set ?_ GE142.out) | exact HB.out)⟩
            · replace c8 := Bool.eq_false_iff.mpr c8
              subst c8
              have H1 : (stem_turn.l0 k1 a0 a1 l2 (l2.length : Int) (wrap64 (x14_1 + 1))) = some (r1, r2) := by rw [if_neg (show ¬ (false = true) by decide)] at H; exact H
              clear H
              have H := H1
              clear H1
              have H' := Aside0.mk H
              clear H
              have p141 : 0 ≤ (x14_1 : Int) := of_decide_eq_true (by first | (with_reducible assumption) | assumption)
              have q141 : x14_1 < (l2.length : Int) := of_decide_eq_true (by first | (with_reducible assumption) | assumption)
              obtain ⟨ad141, e141, hx141_0, hx141_1⟩ := at_T61 HR2.out x14_1 p141 q141
              cases e141
              replace hx141_0 := (HB.out.cell (World.block_lt_of_cell? w _ hx141_0)).trans hx141_0
              replace hx141_1 := (HB.out.cell (World.block_lt_of_cell? w _ hx141_1)).trans hx141_1
              replace p141 := eq_true p141
              replace q141 := eq_true q141
              go_wp2_with (first | ((with_reducible refine gate_dst (N := 9) rfl ?_); refine box_event ?hg (N := 9) ?hd (cs := #[.string (⟨#[]⟩ : ByteArray), .string (⟨#[]⟩ : ByteArray)]) (t := 61) ?hr ?_; (case hd => rfl); (case hg => rfl); (case hr => first | (go_simp; done) | (go_simp; rfl)); intro gb142 hg w16 hbox hb; have n0_ := Aside0.mk (below_step (by repeat (first | (with_reducible first | exact HB.out | apply below_alloc | apply pw_below_drewN | apply below_drew1) | exact HB.out)) hb); have n1_ := Aside0.mk (hbox); have n2_ := Aside0.mk ((by rw [hg]; exact (below_size (by repeat (first | (with_reducible first | exact HB.out | apply below_alloc | apply pw_below_drewN | apply below_drew1) | exact HB.out))) : w.heap.size ≤ gb142)); have n3_ := Aside0.mk ((by rw [hg]; exact (below_size (by repeat (first | (with_reducible first | exact HB.out | apply below_alloc | apply pw_below_drewN | apply below_drew1) | exact HB.out))) : w.heap.size ≤ gb142)); clear HB; have HB := n0_; have BK142 := n1_; have GW142 := n2_; have GE142 := n3_; clear n0_ n1_ n2_ n3_; clear hb hbox hg; have hcz17_0 : w16.cell? ⟨gb142, 0, none⟩ = some (.string (⟨#[]⟩ : ByteArray)) := (blk_cell BK142.out 0).trans rfl; have hcz17_1 : w16.cell? ⟨gb142, 1, none⟩ = some (.string (⟨#[]⟩ : ByteArray)) := (blk_cell BK142.out 1).trans rfl; have hfz17_0 := blk_frozen BK142.out 0; have hfz17_1 := blk_frozen BK142.out 1) | ((with_reducible refine gate_callee (f := 28) rfl ?_); refine goesL_ (some 22) rfl rfl Try.func28 (by kernel_rfl) rfl #[.string a0, .string ((rd_T61 l2 x14_1).f0)] rfl (by (try simp only [List.map_toArray, List.map_cons, List.map_nil]); first | done | rfl | (simp only [List.length_drop, List.length_take]; rfl)) ?_; (with_reducible refine (strings_CutSuffix.calls a0 ((rd_T61 l2 x14_1).f0) t143 false _ A7.out).mono ?_); rintro e w' ⟨rfl, ⟨nd, rfl⟩⟩; refine ⟨_, rfl, ?_⟩))
              go_roundg k1
              case measure => have := HK1.out; omega
              case rel => exact ⟨(wrap64 (x14_1 + 1)), (by first | rfl | (simp; done) | (simp [*]; done)), H', ⟨by have := HK1.out; omega⟩, ⟨by repeat (first | (with_reducible first | exact HB.out | apply below_alloc | apply pw_below_drewN | apply below_drew1 | refine below_set ?_ GE142.out) | exact HB.out)⟩⟩
          · rw [if_neg c6] at H
            exact absurd H (by simp)
        · rw [if_neg c5] at H
          exact absurd H (by simp)
      · rw [if_neg c4] at H
        have c4b0 : decide (x14_1 < (l2.length : Int)) = false := decide_eq_false c4
        clear c4
        simp only [Option.some.injEq, Prod.mk.injEq] at H
        obtain ⟨rfl, rfl⟩ := H
        go_wp2
        go_ret2
        exact ⟨by first | rfl | (simp [errW_none, errW_some] <;> rfl) | (simp [*, errW_none, errW_some] <;> rfl), by repeat (first | (with_reducible first | exact HB.out | apply below_alloc | apply pw_below_drewN | apply below_drew1) | exact HB.out)⟩

/-! ### stem_fourth: function 31 -/
def stem_fourth.f (k : Nat) (a0 : ByteArray) : Option (ByteArray) := (strings_CutSuffix.f a0 (⟨#[105, 111, 110]⟩ : ByteArray)).bind fun bt146 => (if bt146.2 = true then ((stem_Measure.f k bt146.1).bind fun t148 => (if t148 > 1 then ((strings_HasSuffix.f bt146.1 (⟨#[115]⟩ : ByteArray)).bind fun t149 => (if t149 = true then (some bt146.1) else ((strings_HasSuffix.f bt146.1 (⟨#[116]⟩ : ByteArray)).bind fun t150 => (if t150 = true then (some bt146.1) else (some a0))))) else (some a0))) else ((stem_turn.f k a0 1 (([(⟨(⟨#[97, 108]⟩ : ByteArray), (⟨#[]⟩ : ByteArray)⟩ : S61), (⟨(⟨#[97, 110, 99, 101]⟩ : ByteArray), (⟨#[]⟩ : ByteArray)⟩ : S61), (⟨(⟨#[101, 110, 99, 101]⟩ : ByteArray), (⟨#[]⟩ : ByteArray)⟩ : S61), (⟨(⟨#[101, 114]⟩ : ByteArray), (⟨#[]⟩ : ByteArray)⟩ : S61), (⟨(⟨#[105, 99]⟩ : ByteArray), (⟨#[]⟩ : ByteArray)⟩ : S61), (⟨(⟨#[97, 98, 108, 101]⟩ : ByteArray), (⟨#[]⟩ : ByteArray)⟩ : S61), (⟨(⟨#[105, 98, 108, 101]⟩ : ByteArray), (⟨#[]⟩ : ByteArray)⟩ : S61), (⟨(⟨#[97, 110, 116]⟩ : ByteArray), (⟨#[]⟩ : ByteArray)⟩ : S61), (⟨(⟨#[101, 109, 101, 110, 116]⟩ : ByteArray), (⟨#[]⟩ : ByteArray)⟩ : S61), (⟨(⟨#[109, 101, 110, 116]⟩ : ByteArray), (⟨#[]⟩ : ByteArray)⟩ : S61), (⟨(⟨#[101, 110, 116]⟩ : ByteArray), (⟨#[]⟩ : ByteArray)⟩ : S61), (⟨(⟨#[111, 117]⟩ : ByteArray), (⟨#[]⟩ : ByteArray)⟩ : S61), (⟨(⟨#[105, 115, 109]⟩ : ByteArray), (⟨#[]⟩ : ByteArray)⟩ : S61), (⟨(⟨#[97, 116, 101]⟩ : ByteArray), (⟨#[]⟩ : ByteArray)⟩ : S61), (⟨(⟨#[105, 116, 105]⟩ : ByteArray), (⟨#[]⟩ : ByteArray)⟩ : S61), (⟨(⟨#[111, 117, 115]⟩ : ByteArray), (⟨#[]⟩ : ByteArray)⟩ : S61), (⟨(⟨#[105, 118, 101]⟩ : ByteArray), (⟨#[]⟩ : ByteArray)⟩ : S61), (⟨(⟨#[105, 122, 101]⟩ : ByteArray), (⟨#[]⟩ : ByteArray)⟩ : S61)] : List (S61)))).bind fun bt154 => (some bt154.1)))
theorem stem_fourth.mono : ∀ a0 k, LeO (stem_fourth.f k a0) (stem_fourth.f (k + 1) a0) := by
  intro a0 k
  unfold stem_fourth.f
  repeat' first
      | (with_reducible exact stem_Measure.mono _ _)
      | (with_reducible exact stem_turn.mono _ _ _ _)
      | (with_reducible exact LeO.refl _)
      | (with_reducible exact LeO.none _)
      | (with_reducible refine LeO.ite ?_ ?_)
      | (with_reducible refine LeO.bind ?_ (fun _ => ?_))
      | exact stem_Measure.mono _ _
      | exact stem_turn.mono _ _ _ _
      | exact LeO.none _
      | refine LeO.ite ?_ ?_
      | refine LeO.bind ?_ (fun _ => ?_)
set_option maxHeartbeats 8000000 in
set_option maxRecDepth 100000 in
theorem stem_fourth.calls (k : Nat) (a0 : ByteArray) (r : ByteArray) (w : World) (h : stem_fourth.f k a0 = some r) :
    Calls Try.prog 31 #[.string a0] w fun e w' => e = .returned (.string r) ∧ Below w.heap.size w w' := by
  have hu61 := Try.underlying61
  have HB := Aside0.mk (Below.refl w.heap.size w)
  have H : ((strings_CutSuffix.f a0 (⟨#[105, 111, 110]⟩ : ByteArray)).bind fun bt146 => (if bt146.2 = true then ((stem_Measure.f k bt146.1).bind fun t148 => (if t148 > 1 then ((strings_HasSuffix.f bt146.1 (⟨#[115]⟩ : ByteArray)).bind fun t149 => (if t149 = true then (some bt146.1) else ((strings_HasSuffix.f bt146.1 (⟨#[116]⟩ : ByteArray)).bind fun t150 => (if t150 = true then (some bt146.1) else (some a0))))) else (some a0))) else ((stem_turn.f k a0 1 (([(⟨(⟨#[97, 108]⟩ : ByteArray), (⟨#[]⟩ : ByteArray)⟩ : S61), (⟨(⟨#[97, 110, 99, 101]⟩ : ByteArray), (⟨#[]⟩ : ByteArray)⟩ : S61), (⟨(⟨#[101, 110, 99, 101]⟩ : ByteArray), (⟨#[]⟩ : ByteArray)⟩ : S61), (⟨(⟨#[101, 114]⟩ : ByteArray), (⟨#[]⟩ : ByteArray)⟩ : S61), (⟨(⟨#[105, 99]⟩ : ByteArray), (⟨#[]⟩ : ByteArray)⟩ : S61), (⟨(⟨#[97, 98, 108, 101]⟩ : ByteArray), (⟨#[]⟩ : ByteArray)⟩ : S61), (⟨(⟨#[105, 98, 108, 101]⟩ : ByteArray), (⟨#[]⟩ : ByteArray)⟩ : S61), (⟨(⟨#[97, 110, 116]⟩ : ByteArray), (⟨#[]⟩ : ByteArray)⟩ : S61), (⟨(⟨#[101, 109, 101, 110, 116]⟩ : ByteArray), (⟨#[]⟩ : ByteArray)⟩ : S61), (⟨(⟨#[109, 101, 110, 116]⟩ : ByteArray), (⟨#[]⟩ : ByteArray)⟩ : S61), (⟨(⟨#[101, 110, 116]⟩ : ByteArray), (⟨#[]⟩ : ByteArray)⟩ : S61), (⟨(⟨#[111, 117]⟩ : ByteArray), (⟨#[]⟩ : ByteArray)⟩ : S61), (⟨(⟨#[105, 115, 109]⟩ : ByteArray), (⟨#[]⟩ : ByteArray)⟩ : S61), (⟨(⟨#[97, 116, 101]⟩ : ByteArray), (⟨#[]⟩ : ByteArray)⟩ : S61), (⟨(⟨#[105, 116, 105]⟩ : ByteArray), (⟨#[]⟩ : ByteArray)⟩ : S61), (⟨(⟨#[111, 117, 115]⟩ : ByteArray), (⟨#[]⟩ : ByteArray)⟩ : S61), (⟨(⟨#[105, 118, 101]⟩ : ByteArray), (⟨#[]⟩ : ByteArray)⟩ : S61), (⟨(⟨#[105, 122, 101]⟩ : ByteArray), (⟨#[]⟩ : ByteArray)⟩ : S61)] : List (S61)))).bind fun bt154 => (some bt154.1)))) = some r := h
  clear h
  replace H := Option.bind_eq_some_iff.mp H
  obtain ⟨⟨t146, t147⟩, A20, H⟩ := H
  replace H : (if t147 = true then ((stem_Measure.f k t146).bind fun t148 => (if t148 > 1 then ((strings_HasSuffix.f t146 (⟨#[115]⟩ : ByteArray)).bind fun t149 => (if t149 = true then (some t146) else ((strings_HasSuffix.f t146 (⟨#[116]⟩ : ByteArray)).bind fun t150 => (if t150 = true then (some t146) else (some a0))))) else (some a0))) else ((stem_turn.f k a0 1 (([(⟨(⟨#[97, 108]⟩ : ByteArray), (⟨#[]⟩ : ByteArray)⟩ : S61), (⟨(⟨#[97, 110, 99, 101]⟩ : ByteArray), (⟨#[]⟩ : ByteArray)⟩ : S61), (⟨(⟨#[101, 110, 99, 101]⟩ : ByteArray), (⟨#[]⟩ : ByteArray)⟩ : S61), (⟨(⟨#[101, 114]⟩ : ByteArray), (⟨#[]⟩ : ByteArray)⟩ : S61), (⟨(⟨#[105, 99]⟩ : ByteArray), (⟨#[]⟩ : ByteArray)⟩ : S61), (⟨(⟨#[97, 98, 108, 101]⟩ : ByteArray), (⟨#[]⟩ : ByteArray)⟩ : S61), (⟨(⟨#[105, 98, 108, 101]⟩ : ByteArray), (⟨#[]⟩ : ByteArray)⟩ : S61), (⟨(⟨#[97, 110, 116]⟩ : ByteArray), (⟨#[]⟩ : ByteArray)⟩ : S61), (⟨(⟨#[101, 109, 101, 110, 116]⟩ : ByteArray), (⟨#[]⟩ : ByteArray)⟩ : S61), (⟨(⟨#[109, 101, 110, 116]⟩ : ByteArray), (⟨#[]⟩ : ByteArray)⟩ : S61), (⟨(⟨#[101, 110, 116]⟩ : ByteArray), (⟨#[]⟩ : ByteArray)⟩ : S61), (⟨(⟨#[111, 117]⟩ : ByteArray), (⟨#[]⟩ : ByteArray)⟩ : S61), (⟨(⟨#[105, 115, 109]⟩ : ByteArray), (⟨#[]⟩ : ByteArray)⟩ : S61), (⟨(⟨#[97, 116, 101]⟩ : ByteArray), (⟨#[]⟩ : ByteArray)⟩ : S61), (⟨(⟨#[105, 116, 105]⟩ : ByteArray), (⟨#[]⟩ : ByteArray)⟩ : S61), (⟨(⟨#[111, 117, 115]⟩ : ByteArray), (⟨#[]⟩ : ByteArray)⟩ : S61), (⟨(⟨#[105, 118, 101]⟩ : ByteArray), (⟨#[]⟩ : ByteArray)⟩ : S61), (⟨(⟨#[105, 122, 101]⟩ : ByteArray), (⟨#[]⟩ : ByteArray)⟩ : S61)] : List (S61)))).bind fun bt154 => (some bt154.1))) = some r := H
  have A2 := Aside0.mk A20
  clear A20
  by_cases c3 : t147 = true
  · subst c3
    have H1 : ((stem_Measure.f k t146).bind fun t148 => (if t148 > 1 then ((strings_HasSuffix.f t146 (⟨#[115]⟩ : ByteArray)).bind fun t149 => (if t149 = true then (some t146) else ((strings_HasSuffix.f t146 (⟨#[116]⟩ : ByteArray)).bind fun t150 => (if t150 = true then (some t146) else (some a0))))) else (some a0))) = some r := by rw [if_pos rfl] at H; exact H
    clear H
    have H := H1
    clear H1
    replace H := Option.bind_eq_some_iff.mp H
    obtain ⟨t148, A40, H⟩ := H
    replace H : (if t148 > 1 then ((strings_HasSuffix.f t146 (⟨#[115]⟩ : ByteArray)).bind fun t149 => (if t149 = true then (some t146) else ((strings_HasSuffix.f t146 (⟨#[116]⟩ : ByteArray)).bind fun t150 => (if t150 = true then (some t146) else (some a0))))) else (some a0)) = some r := H
    have A4 := Aside0.mk A40
    clear A40
    by_cases c5 : t148 > 1
    · rw [if_pos c5] at H
      have c5b0 : decide (1 < t148) = true := decide_eq_true c5
      clear c5
      replace H := Option.bind_eq_some_iff.mp H
      obtain ⟨t149, A60, H⟩ := H
      replace H : (if t149 = true then (some t146) else ((strings_HasSuffix.f t146 (⟨#[116]⟩ : ByteArray)).bind fun t150 => (if t150 = true then (some t146) else (some a0)))) = some r := H
      have A6 := Aside0.mk A60
      clear A60
      by_cases c7 : t149 = true
      · subst c7
        have H1 : (some t146) = some r := by rw [if_pos rfl] at H; exact H
        clear H
        have H := H1
        clear H1
        obtain rfl := Option.some.inj H
        go_enter Try.func31, Try.ntmps31
        go_wp2_with (first | ((with_reducible refine gate_callee (f := 28) rfl ?_); refine goesL_ (some 7) rfl rfl Try.func28 (by kernel_rfl) rfl #[.string a0, .string (⟨#[105, 111, 110]⟩ : ByteArray)] rfl (by (try simp only [List.map_toArray, List.map_cons, List.map_nil]); first | done | rfl | (simp only [List.length_drop, List.length_take]; rfl)) ?_; (with_reducible refine (strings_CutSuffix.calls a0 (⟨#[105, 111, 110]⟩ : ByteArray) t146 true _ A2.out).mono ?_); rintro e w' ⟨rfl, ⟨nd, rfl⟩⟩; refine ⟨_, rfl, ?_⟩) | ((with_reducible refine gate_callee (f := 14) rfl ?_); refine goesL_ (some 12) rfl rfl Try.func14 (by kernel_rfl) rfl #[.string t146] rfl (by (try simp only [List.map_toArray, List.map_cons, List.map_nil]); first | done | rfl | (simp only [List.length_drop, List.length_take]; rfl)) ?_; (with_reducible refine (stem_Measure.calls k t146 t148 _ A4.out).mono ?_); rintro e w' ⟨rfl, ⟨nd, rfl⟩⟩; refine ⟨_, rfl, ?_⟩) | (go_at_call 40; (with_reducible refine (strings_HasSuffix.calls t146 (⟨#[115]⟩ : ByteArray) true _ A6.out).mono ?_); rintro e w' ⟨rfl, ⟨nd, rfl⟩⟩))
        go_ret
        exact ⟨by first | rfl | (simp [errW_none, errW_some] <;> rfl) | (simp [*, errW_none, errW_some] <;> rfl), by repeat (first | (with_reducible first | exact HB.out | apply below_alloc | apply pw_below_drewN | apply below_drew1) | exact HB.out)⟩
      · replace c7 := Bool.eq_false_iff.mpr c7
        subst c7
        have H1 : ((strings_HasSuffix.f t146 (⟨#[116]⟩ : ByteArray)).bind fun t150 => (if t150 = true then (some t146) else (some a0))) = some r := by rw [if_neg (show ¬ (false = true) by decide)] at H; exact H
        clear H
        have H := H1
        clear H1
        replace H := Option.bind_eq_some_iff.mp H
        obtain ⟨t150, A80, H⟩ := H
        replace H : (if t150 = true then (some t146) else (some a0)) = some r := H
        have A8 := Aside0.mk A80
        clear A80
        by_cases c9 : t150 = true
        · subst c9
          have H1 : (some t146) = some r := by rw [if_pos rfl] at H; exact H
          clear H
          have H := H1
          clear H1
          obtain rfl := Option.some.inj H
          go_enter Try.func31, Try.ntmps31
          go_wp2_with (first | ((with_reducible refine gate_callee (f := 28) rfl ?_); refine goesL_ (some 7) rfl rfl Try.func28 (by kernel_rfl) rfl #[.string a0, .string (⟨#[105, 111, 110]⟩ : ByteArray)] rfl (by (try simp only [List.map_toArray, List.map_cons, List.map_nil]); first | done | rfl | (simp only [List.length_drop, List.length_take]; rfl)) ?_; (with_reducible refine (strings_CutSuffix.calls a0 (⟨#[105, 111, 110]⟩ : ByteArray) t146 true _ A2.out).mono ?_); rintro e w' ⟨rfl, ⟨nd, rfl⟩⟩; refine ⟨_, rfl, ?_⟩) | ((with_reducible refine gate_callee (f := 14) rfl ?_); refine goesL_ (some 12) rfl rfl Try.func14 (by kernel_rfl) rfl #[.string t146] rfl (by (try simp only [List.map_toArray, List.map_cons, List.map_nil]); first | done | rfl | (simp only [List.length_drop, List.length_take]; rfl)) ?_; (with_reducible refine (stem_Measure.calls k t146 t148 _ A4.out).mono ?_); rintro e w' ⟨rfl, ⟨nd, rfl⟩⟩; refine ⟨_, rfl, ?_⟩) | (go_at_call 40; (with_reducible refine (strings_HasSuffix.calls t146 (⟨#[115]⟩ : ByteArray) false _ A6.out).mono ?_); rintro e w' ⟨rfl, ⟨nd, rfl⟩⟩) | (go_at_call 40; (with_reducible refine (strings_HasSuffix.calls t146 (⟨#[116]⟩ : ByteArray) true _ A8.out).mono ?_); rintro e w' ⟨rfl, ⟨nd, rfl⟩⟩))
          go_ret
          exact ⟨by first | rfl | (simp [errW_none, errW_some] <;> rfl) | (simp [*, errW_none, errW_some] <;> rfl), by repeat (first | (with_reducible first | exact HB.out | apply below_alloc | apply pw_below_drewN | apply below_drew1) | exact HB.out)⟩
        · replace c9 := Bool.eq_false_iff.mpr c9
          subst c9
          have H1 : (some a0) = some r := by rw [if_neg (show ¬ (false = true) by decide)] at H; exact H
          clear H
          have H := H1
          clear H1
          obtain rfl := Option.some.inj H
          go_enter Try.func31, Try.ntmps31
          go_wp2_with (first | ((with_reducible refine gate_callee (f := 28) rfl ?_); refine goesL_ (some 7) rfl rfl Try.func28 (by kernel_rfl) rfl #[.string a0, .string (⟨#[105, 111, 110]⟩ : ByteArray)] rfl (by (try simp only [List.map_toArray, List.map_cons, List.map_nil]); first | done | rfl | (simp only [List.length_drop, List.length_take]; rfl)) ?_; (with_reducible refine (strings_CutSuffix.calls a0 (⟨#[105, 111, 110]⟩ : ByteArray) t146 true _ A2.out).mono ?_); rintro e w' ⟨rfl, ⟨nd, rfl⟩⟩; refine ⟨_, rfl, ?_⟩) | ((with_reducible refine gate_callee (f := 14) rfl ?_); refine goesL_ (some 12) rfl rfl Try.func14 (by kernel_rfl) rfl #[.string t146] rfl (by (try simp only [List.map_toArray, List.map_cons, List.map_nil]); first | done | rfl | (simp only [List.length_drop, List.length_take]; rfl)) ?_; (with_reducible refine (stem_Measure.calls k t146 t148 _ A4.out).mono ?_); rintro e w' ⟨rfl, ⟨nd, rfl⟩⟩; refine ⟨_, rfl, ?_⟩) | (go_at_call 40; (with_reducible refine (strings_HasSuffix.calls t146 (⟨#[115]⟩ : ByteArray) false _ A6.out).mono ?_); rintro e w' ⟨rfl, ⟨nd, rfl⟩⟩) | (go_at_call 40; (with_reducible refine (strings_HasSuffix.calls t146 (⟨#[116]⟩ : ByteArray) false _ A8.out).mono ?_); rintro e w' ⟨rfl, ⟨nd, rfl⟩⟩))
          go_ret
          exact ⟨by first | rfl | (simp [errW_none, errW_some] <;> rfl) | (simp [*, errW_none, errW_some] <;> rfl), by repeat (first | (with_reducible first | exact HB.out | apply below_alloc | apply pw_below_drewN | apply below_drew1) | exact HB.out)⟩
    · rw [if_neg c5] at H
      have c5b0 : decide (1 < t148) = false := decide_eq_false c5
      clear c5
      obtain rfl := Option.some.inj H
      go_enter Try.func31, Try.ntmps31
      go_wp2_with (first | ((with_reducible refine gate_callee (f := 28) rfl ?_); refine goesL_ (some 7) rfl rfl Try.func28 (by kernel_rfl) rfl #[.string a0, .string (⟨#[105, 111, 110]⟩ : ByteArray)] rfl (by (try simp only [List.map_toArray, List.map_cons, List.map_nil]); first | done | rfl | (simp only [List.length_drop, List.length_take]; rfl)) ?_; (with_reducible refine (strings_CutSuffix.calls a0 (⟨#[105, 111, 110]⟩ : ByteArray) t146 true _ A2.out).mono ?_); rintro e w' ⟨rfl, ⟨nd, rfl⟩⟩; refine ⟨_, rfl, ?_⟩) | ((with_reducible refine gate_callee (f := 14) rfl ?_); refine goesL_ (some 12) rfl rfl Try.func14 (by kernel_rfl) rfl #[.string t146] rfl (by (try simp only [List.map_toArray, List.map_cons, List.map_nil]); first | done | rfl | (simp only [List.length_drop, List.length_take]; rfl)) ?_; (with_reducible refine (stem_Measure.calls k t146 t148 _ A4.out).mono ?_); rintro e w' ⟨rfl, ⟨nd, rfl⟩⟩; refine ⟨_, rfl, ?_⟩))
      go_ret
      exact ⟨by first | rfl | (simp [errW_none, errW_some] <;> rfl) | (simp [*, errW_none, errW_some] <;> rfl), by repeat (first | (with_reducible first | exact HB.out | apply below_alloc | apply pw_below_drewN | apply below_drew1) | exact HB.out)⟩
  · replace c3 := Bool.eq_false_iff.mpr c3
    subst c3
    have H1 : ((stem_turn.f k a0 1 (([(⟨(⟨#[97, 108]⟩ : ByteArray), (⟨#[]⟩ : ByteArray)⟩ : S61), (⟨(⟨#[97, 110, 99, 101]⟩ : ByteArray), (⟨#[]⟩ : ByteArray)⟩ : S61), (⟨(⟨#[101, 110, 99, 101]⟩ : ByteArray), (⟨#[]⟩ : ByteArray)⟩ : S61), (⟨(⟨#[101, 114]⟩ : ByteArray), (⟨#[]⟩ : ByteArray)⟩ : S61), (⟨(⟨#[105, 99]⟩ : ByteArray), (⟨#[]⟩ : ByteArray)⟩ : S61), (⟨(⟨#[97, 98, 108, 101]⟩ : ByteArray), (⟨#[]⟩ : ByteArray)⟩ : S61), (⟨(⟨#[105, 98, 108, 101]⟩ : ByteArray), (⟨#[]⟩ : ByteArray)⟩ : S61), (⟨(⟨#[97, 110, 116]⟩ : ByteArray), (⟨#[]⟩ : ByteArray)⟩ : S61), (⟨(⟨#[101, 109, 101, 110, 116]⟩ : ByteArray), (⟨#[]⟩ : ByteArray)⟩ : S61), (⟨(⟨#[109, 101, 110, 116]⟩ : ByteArray), (⟨#[]⟩ : ByteArray)⟩ : S61), (⟨(⟨#[101, 110, 116]⟩ : ByteArray), (⟨#[]⟩ : ByteArray)⟩ : S61), (⟨(⟨#[111, 117]⟩ : ByteArray), (⟨#[]⟩ : ByteArray)⟩ : S61), (⟨(⟨#[105, 115, 109]⟩ : ByteArray), (⟨#[]⟩ : ByteArray)⟩ : S61), (⟨(⟨#[97, 116, 101]⟩ : ByteArray), (⟨#[]⟩ : ByteArray)⟩ : S61), (⟨(⟨#[105, 116, 105]⟩ : ByteArray), (⟨#[]⟩ : ByteArray)⟩ : S61), (⟨(⟨#[111, 117, 115]⟩ : ByteArray), (⟨#[]⟩ : ByteArray)⟩ : S61), (⟨(⟨#[105, 118, 101]⟩ : ByteArray), (⟨#[]⟩ : ByteArray)⟩ : S61), (⟨(⟨#[105, 122, 101]⟩ : ByteArray), (⟨#[]⟩ : ByteArray)⟩ : S61)] : List (S61)))).bind fun bt154 => (some bt154.1)) = some r := by rw [if_neg (show ¬ (false = true) by decide)] at H; exact H
    clear H
    have H := H1
    clear H1
    obtain ⟨y151, hy151⟩ : ∃ y_ : List (S61), y_ = (([(⟨(⟨#[97, 108]⟩ : ByteArray), (⟨#[]⟩ : ByteArray)⟩ : S61), (⟨(⟨#[97, 110, 99, 101]⟩ : ByteArray), (⟨#[]⟩ : ByteArray)⟩ : S61), (⟨(⟨#[101, 110, 99, 101]⟩ : ByteArray), (⟨#[]⟩ : ByteArray)⟩ : S61), (⟨(⟨#[101, 114]⟩ : ByteArray), (⟨#[]⟩ : ByteArray)⟩ : S61), (⟨(⟨#[105, 99]⟩ : ByteArray), (⟨#[]⟩ : ByteArray)⟩ : S61), (⟨(⟨#[97, 98, 108, 101]⟩ : ByteArray), (⟨#[]⟩ : ByteArray)⟩ : S61), (⟨(⟨#[105, 98, 108, 101]⟩ : ByteArray), (⟨#[]⟩ : ByteArray)⟩ : S61), (⟨(⟨#[97, 110, 116]⟩ : ByteArray), (⟨#[]⟩ : ByteArray)⟩ : S61), (⟨(⟨#[101, 109, 101, 110, 116]⟩ : ByteArray), (⟨#[]⟩ : ByteArray)⟩ : S61), (⟨(⟨#[109, 101, 110, 116]⟩ : ByteArray), (⟨#[]⟩ : ByteArray)⟩ : S61), (⟨(⟨#[101, 110, 116]⟩ : ByteArray), (⟨#[]⟩ : ByteArray)⟩ : S61), (⟨(⟨#[111, 117]⟩ : ByteArray), (⟨#[]⟩ : ByteArray)⟩ : S61), (⟨(⟨#[105, 115, 109]⟩ : ByteArray), (⟨#[]⟩ : ByteArray)⟩ : S61), (⟨(⟨#[97, 116, 101]⟩ : ByteArray), (⟨#[]⟩ : ByteArray)⟩ : S61), (⟨(⟨#[105, 116, 105]⟩ : ByteArray), (⟨#[]⟩ : ByteArray)⟩ : S61), (⟨(⟨#[111, 117, 115]⟩ : ByteArray), (⟨#[]⟩ : ByteArray)⟩ : S61), (⟨(⟨#[105, 118, 101]⟩ : ByteArray), (⟨#[]⟩ : ByteArray)⟩ : S61), (⟨(⟨#[105, 122, 101]⟩ : ByteArray), (⟨#[]⟩ : ByteArray)⟩ : S61)] : List (S61))) := ⟨_, rfl⟩
    replace H : ((stem_turn.f k a0 1 y151).bind fun bt154 => (some bt154.1)) = some r := by first | (rw [hy151]; with_reducible exact H) | (have H2_ := (Option.bind_some _ _).symm.trans H; rw [hy151]; with_reducible exact H2_) | (have H2_ := (Option.bind_some _ _).symm.trans H; with_reducible exact H2_) | with_reducible exact H | (rw [hy151]; exact H) | exact H
    have Ny151 := Aside0.mk hy151
    clear hy151
    replace H := Option.bind_eq_some_iff.mp H
    obtain ⟨⟨t154, t155⟩, A100, H⟩ := H
    replace H : (some t154) = some r := H
    have A10 := Aside0.mk A100
    clear A100
    obtain rfl := Option.some.inj H
    go_enter Try.func31, Try.ntmps31
    go_wp2_with (first | ((with_reducible refine gate_callee (f := 28) rfl ?_); refine goesL_ (some 7) rfl rfl Try.func28 (by kernel_rfl) rfl #[.string a0, .string (⟨#[105, 111, 110]⟩ : ByteArray)] rfl (by (try simp only [List.map_toArray, List.map_cons, List.map_nil]); first | done | rfl | (simp only [List.length_drop, List.length_take]; rfl)) ?_; (with_reducible refine (strings_CutSuffix.calls a0 (⟨#[105, 111, 110]⟩ : ByteArray) t146 false _ A2.out).mono ?_); rintro e w' ⟨rfl, ⟨nd, rfl⟩⟩; refine ⟨_, rfl, ?_⟩) | ((with_reducible refine gate_dst (N := 44) rfl ?_); refine Kd.R_lit k61 _ 61 ?hg (N := 44) ?hd (xs := ([(⟨(⟨#[97, 108]⟩ : ByteArray), (⟨#[]⟩ : ByteArray)⟩ : S61), (⟨(⟨#[97, 110, 99, 101]⟩ : ByteArray), (⟨#[]⟩ : ByteArray)⟩ : S61), (⟨(⟨#[101, 110, 99, 101]⟩ : ByteArray), (⟨#[]⟩ : ByteArray)⟩ : S61), (⟨(⟨#[101, 114]⟩ : ByteArray), (⟨#[]⟩ : ByteArray)⟩ : S61), (⟨(⟨#[105, 99]⟩ : ByteArray), (⟨#[]⟩ : ByteArray)⟩ : S61), (⟨(⟨#[97, 98, 108, 101]⟩ : ByteArray), (⟨#[]⟩ : ByteArray)⟩ : S61), (⟨(⟨#[105, 98, 108, 101]⟩ : ByteArray), (⟨#[]⟩ : ByteArray)⟩ : S61), (⟨(⟨#[97, 110, 116]⟩ : ByteArray), (⟨#[]⟩ : ByteArray)⟩ : S61), (⟨(⟨#[101, 109, 101, 110, 116]⟩ : ByteArray), (⟨#[]⟩ : ByteArray)⟩ : S61), (⟨(⟨#[109, 101, 110, 116]⟩ : ByteArray), (⟨#[]⟩ : ByteArray)⟩ : S61), (⟨(⟨#[101, 110, 116]⟩ : ByteArray), (⟨#[]⟩ : ByteArray)⟩ : S61), (⟨(⟨#[111, 117]⟩ : ByteArray), (⟨#[]⟩ : ByteArray)⟩ : S61), (⟨(⟨#[105, 115, 109]⟩ : ByteArray), (⟨#[]⟩ : ByteArray)⟩ : S61), (⟨(⟨#[97, 116, 101]⟩ : ByteArray), (⟨#[]⟩ : ByteArray)⟩ : S61), (⟨(⟨#[105, 116, 105]⟩ : ByteArray), (⟨#[]⟩ : ByteArray)⟩ : S61), (⟨(⟨#[111, 117, 115]⟩ : ByteArray), (⟨#[]⟩ : ByteArray)⟩ : S61), (⟨(⟨#[105, 118, 101]⟩ : ByteArray), (⟨#[]⟩ : ByteArray)⟩ : S61), (⟨(⟨#[105, 122, 101]⟩ : ByteArray), (⟨#[]⟩ : ByteArray)⟩ : S61)] : List (S61))) (inner := [.string (⟨#[97, 108]⟩ : ByteArray), .string (⟨#[]⟩ : ByteArray), .string (⟨#[97, 110, 99, 101]⟩ : ByteArray), .string (⟨#[]⟩ : ByteArray), .string (⟨#[101, 110, 99, 101]⟩ : ByteArray), .string (⟨#[]⟩ : ByteArray), .string (⟨#[101, 114]⟩ : ByteArray), .string (⟨#[]⟩ : ByteArray), .string (⟨#[105, 99]⟩ : ByteArray), .string (⟨#[]⟩ : ByteArray), .string (⟨#[97, 98, 108, 101]⟩ : ByteArray), .string (⟨#[]⟩ : ByteArray), .string (⟨#[105, 98, 108, 101]⟩ : ByteArray), .string (⟨#[]⟩ : ByteArray), .string (⟨#[97, 110, 116]⟩ : ByteArray), .string (⟨#[]⟩ : ByteArray), .string (⟨#[101, 109, 101, 110, 116]⟩ : ByteArray), .string (⟨#[]⟩ : ByteArray), .string (⟨#[109, 101, 110, 116]⟩ : ByteArray), .string (⟨#[]⟩ : ByteArray), .string (⟨#[101, 110, 116]⟩ : ByteArray), .string (⟨#[]⟩ : ByteArray), .string (⟨#[111, 117]⟩ : ByteArray), .string (⟨#[]⟩ : ByteArray), .string (⟨#[105, 115, 109]⟩ : ByteArray), .string (⟨#[]⟩ : ByteArray), .string (⟨#[97, 116, 101]⟩ : ByteArray), .string (⟨#[]⟩ : ByteArray), .string (⟨#[105, 116, 105]⟩ : ByteArray), .string (⟨#[]⟩ : ByteArray), .string (⟨#[111, 117, 115]⟩ : ByteArray), .string (⟨#[]⟩ : ByteArray), .string (⟨#[105, 118, 101]⟩ : ByteArray), .string (⟨#[]⟩ : ByteArray), .string (⟨#[105, 122, 101]⟩ : ByteArray), .string (⟨#[]⟩ : ByteArray)]) (ok := fun _ => True) (okp := fun _ => True) ?hr ?hp (fun _ hk => hk) trivial (Below.refl _ _) (Nat.le_refl _) (by simp) ?_; (case hd => rfl); (case hg => rfl); (case hr => first | (go_simp; done) | (go_simp; rfl)); (case hp => exact (Reps.c2 (show Kd.M k61 _ _ _ (⟨(⟨#[97, 108]⟩ : ByteArray), (⟨#[]⟩ : ByteArray)⟩ : S61) [.string (⟨#[97, 108]⟩ : ByteArray), .string (⟨#[]⟩ : ByteArray)] from (k61_mkM _ _ _ (⟨(⟨#[97, 108]⟩ : ByteArray), (⟨#[]⟩ : ByteArray)⟩ : S61) )) (Reps.c2 (show Kd.M k61 _ _ _ (⟨(⟨#[97, 110, 99, 101]⟩ : ByteArray), (⟨#[]⟩ : ByteArray)⟩ : S61) [.string (⟨#[97, 110, 99, 101]⟩ : ByteArray), .string (⟨#[]⟩ : ByteArray)] from (k61_mkM _ _ _ (⟨(⟨#[97, 110, 99, 101]⟩ : ByteArray), (⟨#[]⟩ : ByteArray)⟩ : S61) )) (Reps.c2 (show Kd.M k61 _ _ _ (⟨(⟨#[101, 110, 99, 101]⟩ : ByteArray), (⟨#[]⟩ : ByteArray)⟩ : S61) [.string (⟨#[101, 110, 99, 101]⟩ : ByteArray), .string (⟨#[]⟩ : ByteArray)] from (k61_mkM _ _ _ (⟨(⟨#[101, 110, 99, 101]⟩ : ByteArray), (⟨#[]⟩ : ByteArray)⟩ : S61) )) (Reps.c2 (show Kd.M k61 _ _ _ (⟨(⟨#[101, 114]⟩ : ByteArray), (⟨#[]⟩ : ByteArray)⟩ : S61) [.string (⟨#[101, 114]⟩ : ByteArray), .string (⟨#[]⟩ : ByteArray)] from (k61_mkM _ _ _ (⟨(⟨#[101, 114]⟩ : ByteArray), (⟨#[]⟩ : ByteArray)⟩ : S61) )) (Reps.c2 (show Kd.M k61 _ _ _ (⟨(⟨#[105, 99]⟩ : ByteArray), (⟨#[]⟩ : ByteArray)⟩ : S61) [.string (⟨#[105, 99]⟩ : ByteArray), .string (⟨#[]⟩ : ByteArray)] from (k61_mkM _ _ _ (⟨(⟨#[105, 99]⟩ : ByteArray), (⟨#[]⟩ : ByteArray)⟩ : S61) )) (Reps.c2 (show Kd.M k61 _ _ _ (⟨(⟨#[97, 98, 108, 101]⟩ : ByteArray), (⟨#[]⟩ : ByteArray)⟩ : S61) [.string (⟨#[97, 98, 108, 101]⟩ : ByteArray), .string (⟨#[]⟩ : ByteArray)] from (k61_mkM _ _ _ (⟨(⟨#[97, 98, 108, 101]⟩ : ByteArray), (⟨#[]⟩ : ByteArray)⟩ : S61) )) (Reps.c2 (show Kd.M k61 _ _ _ (⟨(⟨#[105, 98, 108, 101]⟩ : ByteArray), (⟨#[]⟩ : ByteArray)⟩ : S61) [.string (⟨#[105, 98, 108, 101]⟩ : ByteArray), .string (⟨#[]⟩ : ByteArray)] from (k61_mkM _ _ _ (⟨(⟨#[105, 98, 108, 101]⟩ : ByteArray), (⟨#[]⟩ : ByteArray)⟩ : S61) )) (Reps.c2 (show Kd.M k61 _ _ _ (⟨(⟨#[97, 110, 116]⟩ : ByteArray), (⟨#[]⟩ : ByteArray)⟩ : S61) [.string (⟨#[97, 110, 116]⟩ : ByteArray), .string (⟨#[]⟩ : ByteArray)] from (k61_mkM _ _ _ (⟨(⟨#[97, 110, 116]⟩ : ByteArray), (⟨#[]⟩ : ByteArray)⟩ : S61) )) (Reps.c2 (show Kd.M k61 _ _ _ (⟨(⟨#[101, 109, 101, 110, 116]⟩ : ByteArray), (⟨#[]⟩ : ByteArray)⟩ : S61) [.string (⟨#[101, 109, 101, 110, 116]⟩ : ByteArray), .string (⟨#[]⟩ : ByteArray)] from (k61_mkM _ _ _ (⟨(⟨#[101, 109, 101, 110, 116]⟩ : ByteArray), (⟨#[]⟩ : ByteArray)⟩ : S61) )) (Reps.c2 (show Kd.M k61 _ _ _ (⟨(⟨#[109, 101, 110, 116]⟩ : ByteArray), (⟨#[]⟩ : ByteArray)⟩ : S61) [.string (⟨#[109, 101, 110, 116]⟩ : ByteArray), .string (⟨#[]⟩ : ByteArray)] from (k61_mkM _ _ _ (⟨(⟨#[109, 101, 110, 116]⟩ : ByteArray), (⟨#[]⟩ : ByteArray)⟩ : S61) )) (Reps.c2 (show Kd.M k61 _ _ _ (⟨(⟨#[101, 110, 116]⟩ : ByteArray), (⟨#[]⟩ : ByteArray)⟩ : S61) [.string (⟨#[101, 110, 116]⟩ : ByteArray), .string (⟨#[]⟩ : ByteArray)] from (k61_mkM _ _ _ (⟨(⟨#[101, 110, 116]⟩ : ByteArray), (⟨#[]⟩ : ByteArray)⟩ : S61) )) (Reps.c2 (show Kd.M k61 _ _ _ (⟨(⟨#[111, 117]⟩ : ByteArray), (⟨#[]⟩ : ByteArray)⟩ : S61) [.string (⟨#[111, 117]⟩ : ByteArray), .string (⟨#[]⟩ : ByteArray)] from (k61_mkM _ _ _ (⟨(⟨#[111, 117]⟩ : ByteArray), (⟨#[]⟩ : ByteArray)⟩ : S61) )) (Reps.c2 (show Kd.M k61 _ _ _ (⟨(⟨#[105, 115, 109]⟩ : ByteArray), (⟨#[]⟩ : ByteArray)⟩ : S61) [.string (⟨#[105, 115, 109]⟩ : ByteArray), .string (⟨#[]⟩ : ByteArray)] from (k61_mkM _ _ _ (⟨(⟨#[105, 115, 109]⟩ : ByteArray), (⟨#[]⟩ : ByteArray)⟩ : S61) )) (Reps.c2 (show Kd.M k61 _ _ _ (⟨(⟨#[97, 116, 101]⟩ : ByteArray), (⟨#[]⟩ : ByteArray)⟩ : S61) [.string (⟨#[97, 116, 101]⟩ : ByteArray), .string (⟨#[]⟩ : ByteArray)] from (k61_mkM _ _ _ (⟨(⟨#[97, 116, 101]⟩ : ByteArray), (⟨#[]⟩ : ByteArray)⟩ : S61) )) (Reps.c2 (show Kd.M k61 _ _ _ (⟨(⟨#[105, 116, 105]⟩ : ByteArray), (⟨#[]⟩ : ByteArray)⟩ : S61) [.string (⟨#[105, 116, 105]⟩ : ByteArray), .string (⟨#[]⟩ : ByteArray)] from (k61_mkM _ _ _ (⟨(⟨#[105, 116, 105]⟩ : ByteArray), (⟨#[]⟩ : ByteArray)⟩ : S61) )) (Reps.c2 (show Kd.M k61 _ _ _ (⟨(⟨#[111, 117, 115]⟩ : ByteArray), (⟨#[]⟩ : ByteArray)⟩ : S61) [.string (⟨#[111, 117, 115]⟩ : ByteArray), .string (⟨#[]⟩ : ByteArray)] from (k61_mkM _ _ _ (⟨(⟨#[111, 117, 115]⟩ : ByteArray), (⟨#[]⟩ : ByteArray)⟩ : S61) )) (Reps.c2 (show Kd.M k61 _ _ _ (⟨(⟨#[105, 118, 101]⟩ : ByteArray), (⟨#[]⟩ : ByteArray)⟩ : S61) [.string (⟨#[105, 118, 101]⟩ : ByteArray), .string (⟨#[]⟩ : ByteArray)] from (k61_mkM _ _ _ (⟨(⟨#[105, 118, 101]⟩ : ByteArray), (⟨#[]⟩ : ByteArray)⟩ : S61) )) (Reps.c2 (show Kd.M k61 _ _ _ (⟨(⟨#[105, 122, 101]⟩ : ByteArray), (⟨#[]⟩ : ByteArray)⟩ : S61) [.string (⟨#[105, 122, 101]⟩ : ByteArray), .string (⟨#[]⟩ : ByteArray)] from (k61_mkM _ _ _ (⟨(⟨#[105, 122, 101]⟩ : ByteArray), (⟨#[]⟩ : ByteArray)⟩ : S61) )) (Reps.none _ _)))))))))))))))))))); intro v152 w11 ho12 hb hg_ hnew_; clear hg_ hnew_; (first | rw [← Ny151.out] at ho12 | (simp only [Int.reduceToNat] at ho12; rw [← Ny151.out] at ho12)); have n0_ := Aside0.mk (Kd.R_lower ho12 (below_size (by repeat (first | (with_reducible first | exact HB.out | apply below_alloc | apply pw_below_drewN | apply below_drew1) | exact HB.out)))); have n1_ := Aside0.mk (below_step (by repeat (first | (with_reducible first | exact HB.out | apply below_alloc | apply pw_below_drewN | apply below_drew1) | exact HB.out)) hb); clear HB; have HO153 := n0_; have HB := n1_; clear n0_ n1_; clear hb ho12; obtain ⟨Ao13, co13, eo13⟩ := Kd.R_slice HO153.out; subst eo13) | ((with_reducible refine gate_callee (f := 44) rfl ?_); refine goesL_ (some 45) rfl rfl Try.func44 (by kernel_rfl) rfl #[.string a0, .int .i64 1, .slice Ao13 y151.length co13] rfl (by (try simp only [List.map_toArray, List.map_cons, List.map_nil]); first | done | rfl | (simp only [List.length_drop, List.length_take]; rfl)) ?_; (with_reducible refine (stem_turn.calls k a0 1 _ _ y151 t154 t155 _ ?side1 ?side2 A10.out).mono ?_); (case side1 => repeat (first | exact (Kd.R_reads' HO153.out).2.2 | (with_reducible refine Kd.C_alloc ?_ _) | (with_reducible refine Kd.C_drewN ?_ _) | (with_reducible refine Kd.C_drew ?_))); (case side2 => exact (Kd.R_reads' HO153.out).2.1); rintro e w14 ⟨rfl, hb⟩; refine ⟨_, rfl, ?_⟩; have n0_ := Aside0.mk (Kd.R_below (by (with_reducible repeat (first | apply Kd.R_alloc | apply Kd.R_drewN | apply Kd.R_drew)); exact HO153.out) hb); have n1_ := Aside0.mk (below_step (by repeat (first | (with_reducible first | exact HB.out | apply below_alloc | apply pw_below_drewN | apply below_drew1) | exact HB.out)) hb); clear HO153; clear HB; have HO153 := n0_; have HB := n1_; clear n0_ n1_; (try clear hb); (try clear hb2); (try clear hk); (try clear hi)))
    go_ret
    exact ⟨by first | rfl | (simp [errW_none, errW_some] <;> rfl) | (simp [*, errW_none, errW_some] <;> rfl), by repeat (first | (with_reducible first | exact HB.out | apply below_alloc | apply pw_below_drewN | apply below_drew1) | exact HB.out)⟩

/-! ### stem_second: function 32 -/
def stem_second.f (k : Nat) (a0 : ByteArray) : Option (ByteArray) := (stem_turn.f k a0 0 (([(⟨(⟨#[97, 116, 105, 111, 110, 97, 108]⟩ : ByteArray), (⟨#[97, 116, 101]⟩ : ByteArray)⟩ : S61), (⟨(⟨#[116, 105, 111, 110, 97, 108]⟩ : ByteArray), (⟨#[116, 105, 111, 110]⟩ : ByteArray)⟩ : S61), (⟨(⟨#[101, 110, 99, 105]⟩ : ByteArray), (⟨#[101, 110, 99, 101]⟩ : ByteArray)⟩ : S61), (⟨(⟨#[97, 110, 99, 105]⟩ : ByteArray), (⟨#[97, 110, 99, 101]⟩ : ByteArray)⟩ : S61), (⟨(⟨#[105, 122, 101, 114]⟩ : ByteArray), (⟨#[105, 122, 101]⟩ : ByteArray)⟩ : S61), (⟨(⟨#[97, 98, 108, 105]⟩ : ByteArray), (⟨#[97, 98, 108, 101]⟩ : ByteArray)⟩ : S61), (⟨(⟨#[97, 108, 108, 105]⟩ : ByteArray), (⟨#[97, 108]⟩ : ByteArray)⟩ : S61), (⟨(⟨#[101, 110, 116, 108, 105]⟩ : ByteArray), (⟨#[101, 110, 116]⟩ : ByteArray)⟩ : S61), (⟨(⟨#[101, 108, 105]⟩ : ByteArray), (⟨#[101]⟩ : ByteArray)⟩ : S61), (⟨(⟨#[111, 117, 115, 108, 105]⟩ : ByteArray), (⟨#[111, 117, 115]⟩ : ByteArray)⟩ : S61), (⟨(⟨#[105, 122, 97, 116, 105, 111, 110]⟩ : ByteArray), (⟨#[105, 122, 101]⟩ : ByteArray)⟩ : S61), (⟨(⟨#[97, 116, 105, 111, 110]⟩ : ByteArray), (⟨#[97, 116, 101]⟩ : ByteArray)⟩ : S61), (⟨(⟨#[97, 116, 111, 114]⟩ : ByteArray), (⟨#[97, 116, 101]⟩ : ByteArray)⟩ : S61), (⟨(⟨#[97, 108, 105, 115, 109]⟩ : ByteArray), (⟨#[97, 108]⟩ : ByteArray)⟩ : S61), (⟨(⟨#[105, 118, 101, 110, 101, 115, 115]⟩ : ByteArray), (⟨#[105, 118, 101]⟩ : ByteArray)⟩ : S61), (⟨(⟨#[102, 117, 108, 110, 101, 115, 115]⟩ : ByteArray), (⟨#[102, 117, 108]⟩ : ByteArray)⟩ : S61), (⟨(⟨#[111, 117, 115, 110, 101, 115, 115]⟩ : ByteArray), (⟨#[111, 117, 115]⟩ : ByteArray)⟩ : S61), (⟨(⟨#[97, 108, 105, 116, 105]⟩ : ByteArray), (⟨#[97, 108]⟩ : ByteArray)⟩ : S61), (⟨(⟨#[105, 118, 105, 116, 105]⟩ : ByteArray), (⟨#[105, 118, 101]⟩ : ByteArray)⟩ : S61), (⟨(⟨#[98, 105, 108, 105, 116, 105]⟩ : ByteArray), (⟨#[98, 108, 101]⟩ : ByteArray)⟩ : S61)] : List (S61)))).bind fun bt159 => ((stem_turn.f k bt159.1 0 (([(⟨(⟨#[105, 99, 97, 116, 101]⟩ : ByteArray), (⟨#[105, 99]⟩ : ByteArray)⟩ : S61), (⟨(⟨#[97, 116, 105, 118, 101]⟩ : ByteArray), (⟨#[]⟩ : ByteArray)⟩ : S61), (⟨(⟨#[97, 108, 105, 122, 101]⟩ : ByteArray), (⟨#[97, 108]⟩ : ByteArray)⟩ : S61), (⟨(⟨#[105, 99, 105, 116, 105]⟩ : ByteArray), (⟨#[105, 99]⟩ : ByteArray)⟩ : S61), (⟨(⟨#[105, 99, 97, 108]⟩ : ByteArray), (⟨#[105, 99]⟩ : ByteArray)⟩ : S61), (⟨(⟨#[102, 117, 108]⟩ : ByteArray), (⟨#[]⟩ : ByteArray)⟩ : S61), (⟨(⟨#[110, 101, 115, 115]⟩ : ByteArray), (⟨#[]⟩ : ByteArray)⟩ : S61)] : List (S61)))).bind fun bt164 => (some bt164.1))
theorem stem_second.mono : ∀ a0 k, LeO (stem_second.f k a0) (stem_second.f (k + 1) a0) := by
  intro a0 k
  unfold stem_second.f
  repeat' first
      | (with_reducible exact stem_turn.mono _ _ _ _)
      | (with_reducible exact LeO.refl _)
      | (with_reducible exact LeO.none _)
      | (with_reducible refine LeO.ite ?_ ?_)
      | (with_reducible refine LeO.bind ?_ (fun _ => ?_))
      | exact stem_turn.mono _ _ _ _
      | exact LeO.none _
      | refine LeO.ite ?_ ?_
      | refine LeO.bind ?_ (fun _ => ?_)
set_option maxHeartbeats 8000000 in
set_option maxRecDepth 100000 in
theorem stem_second.calls (k : Nat) (a0 : ByteArray) (r : ByteArray) (w : World) (h : stem_second.f k a0 = some r) :
    Calls Try.prog 32 #[.string a0] w fun e w' => e = .returned (.string r) ∧ Below w.heap.size w w' := by
  have hu61 := Try.underlying61
  have HB := Aside0.mk (Below.refl w.heap.size w)
  have H : ((stem_turn.f k a0 0 (([(⟨(⟨#[97, 116, 105, 111, 110, 97, 108]⟩ : ByteArray), (⟨#[97, 116, 101]⟩ : ByteArray)⟩ : S61), (⟨(⟨#[116, 105, 111, 110, 97, 108]⟩ : ByteArray), (⟨#[116, 105, 111, 110]⟩ : ByteArray)⟩ : S61), (⟨(⟨#[101, 110, 99, 105]⟩ : ByteArray), (⟨#[101, 110, 99, 101]⟩ : ByteArray)⟩ : S61), (⟨(⟨#[97, 110, 99, 105]⟩ : ByteArray), (⟨#[97, 110, 99, 101]⟩ : ByteArray)⟩ : S61), (⟨(⟨#[105, 122, 101, 114]⟩ : ByteArray), (⟨#[105, 122, 101]⟩ : ByteArray)⟩ : S61), (⟨(⟨#[97, 98, 108, 105]⟩ : ByteArray), (⟨#[97, 98, 108, 101]⟩ : ByteArray)⟩ : S61), (⟨(⟨#[97, 108, 108, 105]⟩ : ByteArray), (⟨#[97, 108]⟩ : ByteArray)⟩ : S61), (⟨(⟨#[101, 110, 116, 108, 105]⟩ : ByteArray), (⟨#[101, 110, 116]⟩ : ByteArray)⟩ : S61), (⟨(⟨#[101, 108, 105]⟩ : ByteArray), (⟨#[101]⟩ : ByteArray)⟩ : S61), (⟨(⟨#[111, 117, 115, 108, 105]⟩ : ByteArray), (⟨#[111, 117, 115]⟩ : ByteArray)⟩ : S61), (⟨(⟨#[105, 122, 97, 116, 105, 111, 110]⟩ : ByteArray), (⟨#[105, 122, 101]⟩ : ByteArray)⟩ : S61), (⟨(⟨#[97, 116, 105, 111, 110]⟩ : ByteArray), (⟨#[97, 116, 101]⟩ : ByteArray)⟩ : S61), (⟨(⟨#[97, 116, 111, 114]⟩ : ByteArray), (⟨#[97, 116, 101]⟩ : ByteArray)⟩ : S61), (⟨(⟨#[97, 108, 105, 115, 109]⟩ : ByteArray), (⟨#[97, 108]⟩ : ByteArray)⟩ : S61), (⟨(⟨#[105, 118, 101, 110, 101, 115, 115]⟩ : ByteArray), (⟨#[105, 118, 101]⟩ : ByteArray)⟩ : S61), (⟨(⟨#[102, 117, 108, 110, 101, 115, 115]⟩ : ByteArray), (⟨#[102, 117, 108]⟩ : ByteArray)⟩ : S61), (⟨(⟨#[111, 117, 115, 110, 101, 115, 115]⟩ : ByteArray), (⟨#[111, 117, 115]⟩ : ByteArray)⟩ : S61), (⟨(⟨#[97, 108, 105, 116, 105]⟩ : ByteArray), (⟨#[97, 108]⟩ : ByteArray)⟩ : S61), (⟨(⟨#[105, 118, 105, 116, 105]⟩ : ByteArray), (⟨#[105, 118, 101]⟩ : ByteArray)⟩ : S61), (⟨(⟨#[98, 105, 108, 105, 116, 105]⟩ : ByteArray), (⟨#[98, 108, 101]⟩ : ByteArray)⟩ : S61)] : List (S61)))).bind fun bt159 => ((stem_turn.f k bt159.1 0 (([(⟨(⟨#[105, 99, 97, 116, 101]⟩ : ByteArray), (⟨#[105, 99]⟩ : ByteArray)⟩ : S61), (⟨(⟨#[97, 116, 105, 118, 101]⟩ : ByteArray), (⟨#[]⟩ : ByteArray)⟩ : S61), (⟨(⟨#[97, 108, 105, 122, 101]⟩ : ByteArray), (⟨#[97, 108]⟩ : ByteArray)⟩ : S61), (⟨(⟨#[105, 99, 105, 116, 105]⟩ : ByteArray), (⟨#[105, 99]⟩ : ByteArray)⟩ : S61), (⟨(⟨#[105, 99, 97, 108]⟩ : ByteArray), (⟨#[105, 99]⟩ : ByteArray)⟩ : S61), (⟨(⟨#[102, 117, 108]⟩ : ByteArray), (⟨#[]⟩ : ByteArray)⟩ : S61), (⟨(⟨#[110, 101, 115, 115]⟩ : ByteArray), (⟨#[]⟩ : ByteArray)⟩ : S61)] : List (S61)))).bind fun bt164 => (some bt164.1))) = some r := h
  clear h
  obtain ⟨y156, hy156⟩ : ∃ y_ : List (S61), y_ = (([(⟨(⟨#[97, 116, 105, 111, 110, 97, 108]⟩ : ByteArray), (⟨#[97, 116, 101]⟩ : ByteArray)⟩ : S61), (⟨(⟨#[116, 105, 111, 110, 97, 108]⟩ : ByteArray), (⟨#[116, 105, 111, 110]⟩ : ByteArray)⟩ : S61), (⟨(⟨#[101, 110, 99, 105]⟩ : ByteArray), (⟨#[101, 110, 99, 101]⟩ : ByteArray)⟩ : S61), (⟨(⟨#[97, 110, 99, 105]⟩ : ByteArray), (⟨#[97, 110, 99, 101]⟩ : ByteArray)⟩ : S61), (⟨(⟨#[105, 122, 101, 114]⟩ : ByteArray), (⟨#[105, 122, 101]⟩ : ByteArray)⟩ : S61), (⟨(⟨#[97, 98, 108, 105]⟩ : ByteArray), (⟨#[97, 98, 108, 101]⟩ : ByteArray)⟩ : S61), (⟨(⟨#[97, 108, 108, 105]⟩ : ByteArray), (⟨#[97, 108]⟩ : ByteArray)⟩ : S61), (⟨(⟨#[101, 110, 116, 108, 105]⟩ : ByteArray), (⟨#[101, 110, 116]⟩ : ByteArray)⟩ : S61), (⟨(⟨#[101, 108, 105]⟩ : ByteArray), (⟨#[101]⟩ : ByteArray)⟩ : S61), (⟨(⟨#[111, 117, 115, 108, 105]⟩ : ByteArray), (⟨#[111, 117, 115]⟩ : ByteArray)⟩ : S61), (⟨(⟨#[105, 122, 97, 116, 105, 111, 110]⟩ : ByteArray), (⟨#[105, 122, 101]⟩ : ByteArray)⟩ : S61), (⟨(⟨#[97, 116, 105, 111, 110]⟩ : ByteArray), (⟨#[97, 116, 101]⟩ : ByteArray)⟩ : S61), (⟨(⟨#[97, 116, 111, 114]⟩ : ByteArray), (⟨#[97, 116, 101]⟩ : ByteArray)⟩ : S61), (⟨(⟨#[97, 108, 105, 115, 109]⟩ : ByteArray), (⟨#[97, 108]⟩ : ByteArray)⟩ : S61), (⟨(⟨#[105, 118, 101, 110, 101, 115, 115]⟩ : ByteArray), (⟨#[105, 118, 101]⟩ : ByteArray)⟩ : S61), (⟨(⟨#[102, 117, 108, 110, 101, 115, 115]⟩ : ByteArray), (⟨#[102, 117, 108]⟩ : ByteArray)⟩ : S61), (⟨(⟨#[111, 117, 115, 110, 101, 115, 115]⟩ : ByteArray), (⟨#[111, 117, 115]⟩ : ByteArray)⟩ : S61), (⟨(⟨#[97, 108, 105, 116, 105]⟩ : ByteArray), (⟨#[97, 108]⟩ : ByteArray)⟩ : S61), (⟨(⟨#[105, 118, 105, 116, 105]⟩ : ByteArray), (⟨#[105, 118, 101]⟩ : ByteArray)⟩ : S61), (⟨(⟨#[98, 105, 108, 105, 116, 105]⟩ : ByteArray), (⟨#[98, 108, 101]⟩ : ByteArray)⟩ : S61)] : List (S61))) := ⟨_, rfl⟩
  replace H : ((stem_turn.f k a0 0 y156).bind fun bt159 => ((stem_turn.f k bt159.1 0 (([(⟨(⟨#[105, 99, 97, 116, 101]⟩ : ByteArray), (⟨#[105, 99]⟩ : ByteArray)⟩ : S61), (⟨(⟨#[97, 116, 105, 118, 101]⟩ : ByteArray), (⟨#[]⟩ : ByteArray)⟩ : S61), (⟨(⟨#[97, 108, 105, 122, 101]⟩ : ByteArray), (⟨#[97, 108]⟩ : ByteArray)⟩ : S61), (⟨(⟨#[105, 99, 105, 116, 105]⟩ : ByteArray), (⟨#[105, 99]⟩ : ByteArray)⟩ : S61), (⟨(⟨#[105, 99, 97, 108]⟩ : ByteArray), (⟨#[105, 99]⟩ : ByteArray)⟩ : S61), (⟨(⟨#[102, 117, 108]⟩ : ByteArray), (⟨#[]⟩ : ByteArray)⟩ : S61), (⟨(⟨#[110, 101, 115, 115]⟩ : ByteArray), (⟨#[]⟩ : ByteArray)⟩ : S61)] : List (S61)))).bind fun bt164 => (some bt164.1))) = some r := by first | (rw [hy156]; with_reducible exact H) | (have H2_ := (Option.bind_some _ _).symm.trans H; rw [hy156]; with_reducible exact H2_) | (have H2_ := (Option.bind_some _ _).symm.trans H; with_reducible exact H2_) | with_reducible exact H | (rw [hy156]; exact H) | exact H
  have Ny156 := Aside0.mk hy156
  clear hy156
  replace H := Option.bind_eq_some_iff.mp H
  obtain ⟨⟨t159, t160⟩, A20, H⟩ := H
  replace H : ((stem_turn.f k t159 0 (([(⟨(⟨#[105, 99, 97, 116, 101]⟩ : ByteArray), (⟨#[105, 99]⟩ : ByteArray)⟩ : S61), (⟨(⟨#[97, 116, 105, 118, 101]⟩ : ByteArray), (⟨#[]⟩ : ByteArray)⟩ : S61), (⟨(⟨#[97, 108, 105, 122, 101]⟩ : ByteArray), (⟨#[97, 108]⟩ : ByteArray)⟩ : S61), (⟨(⟨#[105, 99, 105, 116, 105]⟩ : ByteArray), (⟨#[105, 99]⟩ : ByteArray)⟩ : S61), (⟨(⟨#[105, 99, 97, 108]⟩ : ByteArray), (⟨#[105, 99]⟩ : ByteArray)⟩ : S61), (⟨(⟨#[102, 117, 108]⟩ : ByteArray), (⟨#[]⟩ : ByteArray)⟩ : S61), (⟨(⟨#[110, 101, 115, 115]⟩ : ByteArray), (⟨#[]⟩ : ByteArray)⟩ : S61)] : List (S61)))).bind fun bt164 => (some bt164.1)) = some r := H
  have A2 := Aside0.mk A20
  clear A20
  obtain ⟨y161, hy161⟩ : ∃ y_ : List (S61), y_ = (([(⟨(⟨#[105, 99, 97, 116, 101]⟩ : ByteArray), (⟨#[105, 99]⟩ : ByteArray)⟩ : S61), (⟨(⟨#[97, 116, 105, 118, 101]⟩ : ByteArray), (⟨#[]⟩ : ByteArray)⟩ : S61), (⟨(⟨#[97, 108, 105, 122, 101]⟩ : ByteArray), (⟨#[97, 108]⟩ : ByteArray)⟩ : S61), (⟨(⟨#[105, 99, 105, 116, 105]⟩ : ByteArray), (⟨#[105, 99]⟩ : ByteArray)⟩ : S61), (⟨(⟨#[105, 99, 97, 108]⟩ : ByteArray), (⟨#[105, 99]⟩ : ByteArray)⟩ : S61), (⟨(⟨#[102, 117, 108]⟩ : ByteArray), (⟨#[]⟩ : ByteArray)⟩ : S61), (⟨(⟨#[110, 101, 115, 115]⟩ : ByteArray), (⟨#[]⟩ : ByteArray)⟩ : S61)] : List (S61))) := ⟨_, rfl⟩
  replace H : ((stem_turn.f k t159 0 y161).bind fun bt164 => (some bt164.1)) = some r := by first | (rw [hy161]; with_reducible exact H) | (have H2_ := (Option.bind_some _ _).symm.trans H; rw [hy161]; with_reducible exact H2_) | (have H2_ := (Option.bind_some _ _).symm.trans H; with_reducible exact H2_) | with_reducible exact H | (rw [hy161]; exact H) | exact H
  have Ny161 := Aside0.mk hy161
  clear hy161
  replace H := Option.bind_eq_some_iff.mp H
  obtain ⟨⟨t164, t165⟩, A30, H⟩ := H
  replace H : (some t164) = some r := H
  have A3 := Aside0.mk A30
  clear A30
  obtain rfl := Option.some.inj H
  go_enter Try.func32, Try.ntmps32
  go_wp2_with (first | ((with_reducible refine gate_dst (N := 25) rfl ?_); refine Kd.R_lit k61 _ 61 ?hg (N := 25) ?hd (xs := ([(⟨(⟨#[97, 116, 105, 111, 110, 97, 108]⟩ : ByteArray), (⟨#[97, 116, 101]⟩ : ByteArray)⟩ : S61), (⟨(⟨#[116, 105, 111, 110, 97, 108]⟩ : ByteArray), (⟨#[116, 105, 111, 110]⟩ : ByteArray)⟩ : S61), (⟨(⟨#[101, 110, 99, 105]⟩ : ByteArray), (⟨#[101, 110, 99, 101]⟩ : ByteArray)⟩ : S61), (⟨(⟨#[97, 110, 99, 105]⟩ : ByteArray), (⟨#[97, 110, 99, 101]⟩ : ByteArray)⟩ : S61), (⟨(⟨#[105, 122, 101, 114]⟩ : ByteArray), (⟨#[105, 122, 101]⟩ : ByteArray)⟩ : S61), (⟨(⟨#[97, 98, 108, 105]⟩ : ByteArray), (⟨#[97, 98, 108, 101]⟩ : ByteArray)⟩ : S61), (⟨(⟨#[97, 108, 108, 105]⟩ : ByteArray), (⟨#[97, 108]⟩ : ByteArray)⟩ : S61), (⟨(⟨#[101, 110, 116, 108, 105]⟩ : ByteArray), (⟨#[101, 110, 116]⟩ : ByteArray)⟩ : S61), (⟨(⟨#[101, 108, 105]⟩ : ByteArray), (⟨#[101]⟩ : ByteArray)⟩ : S61), (⟨(⟨#[111, 117, 115, 108, 105]⟩ : ByteArray), (⟨#[111, 117, 115]⟩ : ByteArray)⟩ : S61), (⟨(⟨#[105, 122, 97, 116, 105, 111, 110]⟩ : ByteArray), (⟨#[105, 122, 101]⟩ : ByteArray)⟩ : S61), (⟨(⟨#[97, 116, 105, 111, 110]⟩ : ByteArray), (⟨#[97, 116, 101]⟩ : ByteArray)⟩ : S61), (⟨(⟨#[97, 116, 111, 114]⟩ : ByteArray), (⟨#[97, 116, 101]⟩ : ByteArray)⟩ : S61), (⟨(⟨#[97, 108, 105, 115, 109]⟩ : ByteArray), (⟨#[97, 108]⟩ : ByteArray)⟩ : S61), (⟨(⟨#[105, 118, 101, 110, 101, 115, 115]⟩ : ByteArray), (⟨#[105, 118, 101]⟩ : ByteArray)⟩ : S61), (⟨(⟨#[102, 117, 108, 110, 101, 115, 115]⟩ : ByteArray), (⟨#[102, 117, 108]⟩ : ByteArray)⟩ : S61), (⟨(⟨#[111, 117, 115, 110, 101, 115, 115]⟩ : ByteArray), (⟨#[111, 117, 115]⟩ : ByteArray)⟩ : S61), (⟨(⟨#[97, 108, 105, 116, 105]⟩ : ByteArray), (⟨#[97, 108]⟩ : ByteArray)⟩ : S61), (⟨(⟨#[105, 118, 105, 116, 105]⟩ : ByteArray), (⟨#[105, 118, 101]⟩ : ByteArray)⟩ : S61), (⟨(⟨#[98, 105, 108, 105, 116, 105]⟩ : ByteArray), (⟨#[98, 108, 101]⟩ : ByteArray)⟩ : S61)] : List (S61))) (inner := [.string (⟨#[97, 116, 105, 111, 110, 97, 108]⟩ : ByteArray), .string (⟨#[97, 116, 101]⟩ : ByteArray), .string (⟨#[116, 105, 111, 110, 97, 108]⟩ : ByteArray), .string (⟨#[116, 105, 111, 110]⟩ : ByteArray), .string (⟨#[101, 110, 99, 105]⟩ : ByteArray), .string (⟨#[101, 110, 99, 101]⟩ : ByteArray), .string (⟨#[97, 110, 99, 105]⟩ : ByteArray), .string (⟨#[97, 110, 99, 101]⟩ : ByteArray), .string (⟨#[105, 122, 101, 114]⟩ : ByteArray), .string (⟨#[105, 122, 101]⟩ : ByteArray), .string (⟨#[97, 98, 108, 105]⟩ : ByteArray), .string (⟨#[97, 98, 108, 101]⟩ : ByteArray), .string (⟨#[97, 108, 108, 105]⟩ : ByteArray), .string (⟨#[97, 108]⟩ : ByteArray), .string (⟨#[101, 110, 116, 108, 105]⟩ : ByteArray), .string (⟨#[101, 110, 116]⟩ : ByteArray), .string (⟨#[101, 108, 105]⟩ : ByteArray), .string (⟨#[101]⟩ : ByteArray), .string (⟨#[111, 117, 115, 108, 105]⟩ : ByteArray), .string (⟨#[111, 117, 115]⟩ : ByteArray), .string (⟨#[105, 122, 97, 116, 105, 111, 110]⟩ : ByteArray), .string (⟨#[105, 122, 101]⟩ : ByteArray), .string (⟨#[97, 116, 105, 111, 110]⟩ : ByteArray), .string (⟨#[97, 116, 101]⟩ : ByteArray), .string (⟨#[97, 116, 111, 114]⟩ : ByteArray), .string (⟨#[97, 116, 101]⟩ : ByteArray), .string (⟨#[97, 108, 105, 115, 109]⟩ : ByteArray), .string (⟨#[97, 108]⟩ : ByteArray), .string (⟨#[105, 118, 101, 110, 101, 115, 115]⟩ : ByteArray), .string (⟨#[105, 118, 101]⟩ : ByteArray), .string (⟨#[102, 117, 108, 110, 101, 115, 115]⟩ : ByteArray), .string (⟨#[102, 117, 108]⟩ : ByteArray), .string (⟨#[111, 117, 115, 110, 101, 115, 115]⟩ : ByteArray), .string (⟨#[111, 117, 115]⟩ : ByteArray), .string (⟨#[97, 108, 105, 116, 105]⟩ : ByteArray), .string (⟨#[97, 108]⟩ : ByteArray), .string (⟨#[105, 118, 105, 116, 105]⟩ : ByteArray), .string (⟨#[105, 118, 101]⟩ : ByteArray), .string (⟨#[98, 105, 108, 105, 116, 105]⟩ : ByteArray), .string (⟨#[98, 108, 101]⟩ : ByteArray)]) (ok := fun _ => True) (okp := fun _ => True) ?hr ?hp (fun _ hk => hk) trivial (Below.refl _ _) (Nat.le_refl _) (by simp) ?_; (case hd => rfl); (case hg => rfl); (case hr => first | (go_simp; done) | (go_simp; rfl)); (case hp => exact (Reps.c2 (show Kd.M k61 _ _ _ (⟨(⟨#[97, 116, 105, 111, 110, 97, 108]⟩ : ByteArray), (⟨#[97, 116, 101]⟩ : ByteArray)⟩ : S61) [.string (⟨#[97, 116, 105, 111, 110, 97, 108]⟩ : ByteArray), .string (⟨#[97, 116, 101]⟩ : ByteArray)] from (k61_mkM _ _ _ (⟨(⟨#[97, 116, 105, 111, 110, 97, 108]⟩ : ByteArray), (⟨#[97, 116, 101]⟩ : ByteArray)⟩ : S61) )) (Reps.c2 (show Kd.M k61 _ _ _ (⟨(⟨#[116, 105, 111, 110, 97, 108]⟩ : ByteArray), (⟨#[116, 105, 111, 110]⟩ : ByteArray)⟩ : S61) [.string (⟨#[116, 105, 111, 110, 97, 108]⟩ : ByteArray), .string (⟨#[116, 105, 111, 110]⟩ : ByteArray)] from (k61_mkM _ _ _ (⟨(⟨#[116, 105, 111, 110, 97, 108]⟩ : ByteArray), (⟨#[116, 105, 111, 110]⟩ : ByteArray)⟩ : S61) )) (Reps.c2 (show Kd.M k61 _ _ _ (⟨(⟨#[101, 110, 99, 105]⟩ : ByteArray), (⟨#[101, 110, 99, 101]⟩ : ByteArray)⟩ : S61) [.string (⟨#[101, 110, 99, 105]⟩ : ByteArray), .string (⟨#[101, 110, 99, 101]⟩ : ByteArray)] from (k61_mkM _ _ _ (⟨(⟨#[101, 110, 99, 105]⟩ : ByteArray), (⟨#[101, 110, 99, 101]⟩ : ByteArray)⟩ : S61) )) (Reps.c2 (show Kd.M k61 _ _ _ (⟨(⟨#[97, 110, 99, 105]⟩ : ByteArray), (⟨#[97, 110, 99, 101]⟩ : ByteArray)⟩ : S61) [.string (⟨#[97, 110, 99, 105]⟩ : ByteArray), .string (⟨#[97, 110, 99, 101]⟩ : ByteArray)] from (k61_mkM _ _ _ (⟨(⟨#[97, 110, 99, 105]⟩ : ByteArray), (⟨#[97, 110, 99, 101]⟩ : ByteArray)⟩ : S61) )) (Reps.c2 (show Kd.M k61 _ _ _ (⟨(⟨#[105, 122, 101, 114]⟩ : ByteArray), (⟨#[105, 122, 101]⟩ : ByteArray)⟩ : S61) [.string (⟨#[105, 122, 101, 114]⟩ : ByteArray), .string (⟨#[105, 122, 101]⟩ : ByteArray)] from (k61_mkM _ _ _ (⟨(⟨#[105, 122, 101, 114]⟩ : ByteArray), (⟨#[105, 122, 101]⟩ : ByteArray)⟩ : S61) )) (Reps.c2 (show Kd.M k61 _ _ _ (⟨(⟨#[97, 98, 108, 105]⟩ : ByteArray), (⟨#[97, 98, 108, 101]⟩ : ByteArray)⟩ : S61) [.string (⟨#[97, 98, 108, 105]⟩ : ByteArray), .string (⟨#[97, 98, 108, 101]⟩ : ByteArray)] from (k61_mkM _ _ _ (⟨(⟨#[97, 98, 108, 105]⟩ : ByteArray), (⟨#[97, 98, 108, 101]⟩ : ByteArray)⟩ : S61) )) (Reps.c2 (show Kd.M k61 _ _ _ (⟨(⟨#[97, 108, 108, 105]⟩ : ByteArray), (⟨#[97, 108]⟩ : ByteArray)⟩ : S61) [.string (⟨#[97, 108, 108, 105]⟩ : ByteArray), .string (⟨#[97, 108]⟩ : ByteArray)] from (k61_mkM _ _ _ (⟨(⟨#[97, 108, 108, 105]⟩ : ByteArray), (⟨#[97, 108]⟩ : ByteArray)⟩ : S61) )) (Reps.c2 (show Kd.M k61 _ _ _ (⟨(⟨#[101, 110, 116, 108, 105]⟩ : ByteArray), (⟨#[101, 110, 116]⟩ : ByteArray)⟩ : S61) [.string (⟨#[101, 110, 116, 108, 105]⟩ : ByteArray), .string (⟨#[101, 110, 116]⟩ : ByteArray)] from (k61_mkM _ _ _ (⟨(⟨#[101, 110, 116, 108, 105]⟩ : ByteArray), (⟨#[101, 110, 116]⟩ : ByteArray)⟩ : S61) )) (Reps.c2 (show Kd.M k61 _ _ _ (⟨(⟨#[101, 108, 105]⟩ : ByteArray), (⟨#[101]⟩ : ByteArray)⟩ : S61) [.string (⟨#[101, 108, 105]⟩ : ByteArray), .string (⟨#[101]⟩ : ByteArray)] from (k61_mkM _ _ _ (⟨(⟨#[101, 108, 105]⟩ : ByteArray), (⟨#[101]⟩ : ByteArray)⟩ : S61) )) (Reps.c2 (show Kd.M k61 _ _ _ (⟨(⟨#[111, 117, 115, 108, 105]⟩ : ByteArray), (⟨#[111, 117, 115]⟩ : ByteArray)⟩ : S61) [.string (⟨#[111, 117, 115, 108, 105]⟩ : ByteArray), .string (⟨#[111, 117, 115]⟩ : ByteArray)] from (k61_mkM _ _ _ (⟨(⟨#[111, 117, 115, 108, 105]⟩ : ByteArray), (⟨#[111, 117, 115]⟩ : ByteArray)⟩ : S61) )) (Reps.c2 (show Kd.M k61 _ _ _ (⟨(⟨#[105, 122, 97, 116, 105, 111, 110]⟩ : ByteArray), (⟨#[105, 122, 101]⟩ : ByteArray)⟩ : S61) [.string (⟨#[105, 122, 97, 116, 105, 111, 110]⟩ : ByteArray), .string (⟨#[105, 122, 101]⟩ : ByteArray)] from (k61_mkM _ _ _ (⟨(⟨#[105, 122, 97, 116, 105, 111, 110]⟩ : ByteArray), (⟨#[105, 122, 101]⟩ : ByteArray)⟩ : S61) )) (Reps.c2 (show Kd.M k61 _ _ _ (⟨(⟨#[97, 116, 105, 111, 110]⟩ : ByteArray), (⟨#[97, 116, 101]⟩ : ByteArray)⟩ : S61) [.string (⟨#[97, 116, 105, 111, 110]⟩ : ByteArray), .string (⟨#[97, 116, 101]⟩ : ByteArray)] from (k61_mkM _ _ _ (⟨(⟨#[97, 116, 105, 111, 110]⟩ : ByteArray), (⟨#[97, 116, 101]⟩ : ByteArray)⟩ : S61) )) (Reps.c2 (show Kd.M k61 _ _ _ (⟨(⟨#[97, 116, 111, 114]⟩ : ByteArray), (⟨#[97, 116, 101]⟩ : ByteArray)⟩ : S61) [.string (⟨#[97, 116, 111, 114]⟩ : ByteArray), .string (⟨#[97, 116, 101]⟩ : ByteArray)] from (k61_mkM _ _ _ (⟨(⟨#[97, 116, 111, 114]⟩ : ByteArray), (⟨#[97, 116, 101]⟩ : ByteArray)⟩ : S61) )) (Reps.c2 (show Kd.M k61 _ _ _ (⟨(⟨#[97, 108, 105, 115, 109]⟩ : ByteArray), (⟨#[97, 108]⟩ : ByteArray)⟩ : S61) [.string (⟨#[97, 108, 105, 115, 109]⟩ : ByteArray), .string (⟨#[97, 108]⟩ : ByteArray)] from (k61_mkM _ _ _ (⟨(⟨#[97, 108, 105, 115, 109]⟩ : ByteArray), (⟨#[97, 108]⟩ : ByteArray)⟩ : S61) )) (Reps.c2 (show Kd.M k61 _ _ _ (⟨(⟨#[105, 118, 101, 110, 101, 115, 115]⟩ : ByteArray), (⟨#[105, 118, 101]⟩ : ByteArray)⟩ : S61) [.string (⟨#[105, 118, 101, 110, 101, 115, 115]⟩ : ByteArray), .string (⟨#[105, 118, 101]⟩ : ByteArray)] from (k61_mkM _ _ _ (⟨(⟨#[105, 118, 101, 110, 101, 115, 115]⟩ : ByteArray), (⟨#[105, 118, 101]⟩ : ByteArray)⟩ : S61) )) (Reps.c2 (show Kd.M k61 _ _ _ (⟨(⟨#[102, 117, 108, 110, 101, 115, 115]⟩ : ByteArray), (⟨#[102, 117, 108]⟩ : ByteArray)⟩ : S61) [.string (⟨#[102, 117, 108, 110, 101, 115, 115]⟩ : ByteArray), .string (⟨#[102, 117, 108]⟩ : ByteArray)] from (k61_mkM _ _ _ (⟨(⟨#[102, 117, 108, 110, 101, 115, 115]⟩ : ByteArray), (⟨#[102, 117, 108]⟩ : ByteArray)⟩ : S61) )) (Reps.c2 (show Kd.M k61 _ _ _ (⟨(⟨#[111, 117, 115, 110, 101, 115, 115]⟩ : ByteArray), (⟨#[111, 117, 115]⟩ : ByteArray)⟩ : S61) [.string (⟨#[111, 117, 115, 110, 101, 115, 115]⟩ : ByteArray), .string (⟨#[111, 117, 115]⟩ : ByteArray)] from (k61_mkM _ _ _ (⟨(⟨#[111, 117, 115, 110, 101, 115, 115]⟩ : ByteArray), (⟨#[111, 117, 115]⟩ : ByteArray)⟩ : S61) )) (Reps.c2 (show Kd.M k61 _ _ _ (⟨(⟨#[97, 108, 105, 116, 105]⟩ : ByteArray), (⟨#[97, 108]⟩ : ByteArray)⟩ : S61) [.string (⟨#[97, 108, 105, 116, 105]⟩ : ByteArray), .string (⟨#[97, 108]⟩ : ByteArray)] from (k61_mkM _ _ _ (⟨(⟨#[97, 108, 105, 116, 105]⟩ : ByteArray), (⟨#[97, 108]⟩ : ByteArray)⟩ : S61) )) (Reps.c2 (show Kd.M k61 _ _ _ (⟨(⟨#[105, 118, 105, 116, 105]⟩ : ByteArray), (⟨#[105, 118, 101]⟩ : ByteArray)⟩ : S61) [.string (⟨#[105, 118, 105, 116, 105]⟩ : ByteArray), .string (⟨#[105, 118, 101]⟩ : ByteArray)] from (k61_mkM _ _ _ (⟨(⟨#[105, 118, 105, 116, 105]⟩ : ByteArray), (⟨#[105, 118, 101]⟩ : ByteArray)⟩ : S61) )) (Reps.c2 (show Kd.M k61 _ _ _ (⟨(⟨#[98, 105, 108, 105, 116, 105]⟩ : ByteArray), (⟨#[98, 108, 101]⟩ : ByteArray)⟩ : S61) [.string (⟨#[98, 105, 108, 105, 116, 105]⟩ : ByteArray), .string (⟨#[98, 108, 101]⟩ : ByteArray)] from (k61_mkM _ _ _ (⟨(⟨#[98, 105, 108, 105, 116, 105]⟩ : ByteArray), (⟨#[98, 108, 101]⟩ : ByteArray)⟩ : S61) )) (Reps.none _ _)))))))))))))))))))))); intro v157 w4 ho5 hb hg_ hnew_; clear hg_ hnew_; (first | rw [← Ny156.out] at ho5 | (simp only [Int.reduceToNat] at ho5; rw [← Ny156.out] at ho5)); have n0_ := Aside0.mk (Kd.R_lower ho5 (below_size (by repeat (first | (with_reducible first | exact HB.out | apply below_alloc | apply pw_below_drewN | apply below_drew1) | exact HB.out)))); have n1_ := Aside0.mk (below_step (by repeat (first | (with_reducible first | exact HB.out | apply below_alloc | apply pw_below_drewN | apply below_drew1) | exact HB.out)) hb); clear HB; have HO158 := n0_; have HB := n1_; clear n0_ n1_; clear hb ho5; obtain ⟨Ao6, co6, eo6⟩ := Kd.R_slice HO158.out; subst eo6) | ((with_reducible refine gate_callee (f := 44) rfl ?_); refine goesL_ (some 26) rfl rfl Try.func44 (by kernel_rfl) rfl #[.string a0, .int .i64 0, .slice Ao6 y156.length co6] rfl (by (try simp only [List.map_toArray, List.map_cons, List.map_nil]); first | done | rfl | (simp only [List.length_drop, List.length_take]; rfl)) ?_; (with_reducible refine (stem_turn.calls k a0 0 _ _ y156 t159 t160 _ ?side1 ?side2 A2.out).mono ?_); (case side1 => repeat (first | exact (Kd.R_reads' HO158.out).2.2 | (with_reducible refine Kd.C_alloc ?_ _) | (with_reducible refine Kd.C_drewN ?_ _) | (with_reducible refine Kd.C_drew ?_))); (case side2 => exact (Kd.R_reads' HO158.out).2.1); rintro e w7 ⟨rfl, hb⟩; refine ⟨_, rfl, ?_⟩; have n0_ := Aside0.mk (Kd.R_below (by (with_reducible repeat (first | apply Kd.R_alloc | apply Kd.R_drewN | apply Kd.R_drew)); exact HO158.out) hb); have n1_ := Aside0.mk (below_step (by repeat (first | (with_reducible first | exact HB.out | apply below_alloc | apply pw_below_drewN | apply below_drew1) | exact HB.out)) hb); clear HO158; clear HB; have HO158 := n0_; have HB := n1_; clear n0_ n1_; (try clear hb); (try clear hb2); (try clear hk); (try clear hi)) | ((with_reducible refine gate_dst (N := 38) rfl ?_); refine Kd.R_lit k61 _ 61 ?hg (N := 38) ?hd (xs := ([(⟨(⟨#[105, 99, 97, 116, 101]⟩ : ByteArray), (⟨#[105, 99]⟩ : ByteArray)⟩ : S61), (⟨(⟨#[97, 116, 105, 118, 101]⟩ : ByteArray), (⟨#[]⟩ : ByteArray)⟩ : S61), (⟨(⟨#[97, 108, 105, 122, 101]⟩ : ByteArray), (⟨#[97, 108]⟩ : ByteArray)⟩ : S61), (⟨(⟨#[105, 99, 105, 116, 105]⟩ : ByteArray), (⟨#[105, 99]⟩ : ByteArray)⟩ : S61), (⟨(⟨#[105, 99, 97, 108]⟩ : ByteArray), (⟨#[105, 99]⟩ : ByteArray)⟩ : S61), (⟨(⟨#[102, 117, 108]⟩ : ByteArray), (⟨#[]⟩ : ByteArray)⟩ : S61), (⟨(⟨#[110, 101, 115, 115]⟩ : ByteArray), (⟨#[]⟩ : ByteArray)⟩ : S61)] : List (S61))) (inner := [.string (⟨#[105, 99, 97, 116, 101]⟩ : ByteArray), .string (⟨#[105, 99]⟩ : ByteArray), .string (⟨#[97, 116, 105, 118, 101]⟩ : ByteArray), .string (⟨#[]⟩ : ByteArray), .string (⟨#[97, 108, 105, 122, 101]⟩ : ByteArray), .string (⟨#[97, 108]⟩ : ByteArray), .string (⟨#[105, 99, 105, 116, 105]⟩ : ByteArray), .string (⟨#[105, 99]⟩ : ByteArray), .string (⟨#[105, 99, 97, 108]⟩ : ByteArray), .string (⟨#[105, 99]⟩ : ByteArray), .string (⟨#[102, 117, 108]⟩ : ByteArray), .string (⟨#[]⟩ : ByteArray), .string (⟨#[110, 101, 115, 115]⟩ : ByteArray), .string (⟨#[]⟩ : ByteArray)]) (ok := fun _ => True) (okp := fun _ => True) ?hr ?hp (fun _ hk => hk) trivial (Below.refl _ _) (Nat.le_refl _) (by simp) ?_; (case hd => rfl); (case hg => rfl); (case hr => first | (go_simp; done) | (go_simp; rfl)); (case hp => exact (Reps.c2 (show Kd.M k61 _ _ _ (⟨(⟨#[105, 99, 97, 116, 101]⟩ : ByteArray), (⟨#[105, 99]⟩ : ByteArray)⟩ : S61) [.string (⟨#[105, 99, 97, 116, 101]⟩ : ByteArray), .string (⟨#[105, 99]⟩ : ByteArray)] from (k61_mkM _ _ _ (⟨(⟨#[105, 99, 97, 116, 101]⟩ : ByteArray), (⟨#[105, 99]⟩ : ByteArray)⟩ : S61) )) (Reps.c2 (show Kd.M k61 _ _ _ (⟨(⟨#[97, 116, 105, 118, 101]⟩ : ByteArray), (⟨#[]⟩ : ByteArray)⟩ : S61) [.string (⟨#[97, 116, 105, 118, 101]⟩ : ByteArray), .string (⟨#[]⟩ : ByteArray)] from (k61_mkM _ _ _ (⟨(⟨#[97, 116, 105, 118, 101]⟩ : ByteArray), (⟨#[]⟩ : ByteArray)⟩ : S61) )) (Reps.c2 (show Kd.M k61 _ _ _ (⟨(⟨#[97, 108, 105, 122, 101]⟩ : ByteArray), (⟨#[97, 108]⟩ : ByteArray)⟩ : S61) [.string (⟨#[97, 108, 105, 122, 101]⟩ : ByteArray), .string (⟨#[97, 108]⟩ : ByteArray)] from (k61_mkM _ _ _ (⟨(⟨#[97, 108, 105, 122, 101]⟩ : ByteArray), (⟨#[97, 108]⟩ : ByteArray)⟩ : S61) )) (Reps.c2 (show Kd.M k61 _ _ _ (⟨(⟨#[105, 99, 105, 116, 105]⟩ : ByteArray), (⟨#[105, 99]⟩ : ByteArray)⟩ : S61) [.string (⟨#[105, 99, 105, 116, 105]⟩ : ByteArray), .string (⟨#[105, 99]⟩ : ByteArray)] from (k61_mkM _ _ _ (⟨(⟨#[105, 99, 105, 116, 105]⟩ : ByteArray), (⟨#[105, 99]⟩ : ByteArray)⟩ : S61) )) (Reps.c2 (show Kd.M k61 _ _ _ (⟨(⟨#[105, 99, 97, 108]⟩ : ByteArray), (⟨#[105, 99]⟩ : ByteArray)⟩ : S61) [.string (⟨#[105, 99, 97, 108]⟩ : ByteArray), .string (⟨#[105, 99]⟩ : ByteArray)] from (k61_mkM _ _ _ (⟨(⟨#[105, 99, 97, 108]⟩ : ByteArray), (⟨#[105, 99]⟩ : ByteArray)⟩ : S61) )) (Reps.c2 (show Kd.M k61 _ _ _ (⟨(⟨#[102, 117, 108]⟩ : ByteArray), (⟨#[]⟩ : ByteArray)⟩ : S61) [.string (⟨#[102, 117, 108]⟩ : ByteArray), .string (⟨#[]⟩ : ByteArray)] from (k61_mkM _ _ _ (⟨(⟨#[102, 117, 108]⟩ : ByteArray), (⟨#[]⟩ : ByteArray)⟩ : S61) )) (Reps.c2 (show Kd.M k61 _ _ _ (⟨(⟨#[110, 101, 115, 115]⟩ : ByteArray), (⟨#[]⟩ : ByteArray)⟩ : S61) [.string (⟨#[110, 101, 115, 115]⟩ : ByteArray), .string (⟨#[]⟩ : ByteArray)] from (k61_mkM _ _ _ (⟨(⟨#[110, 101, 115, 115]⟩ : ByteArray), (⟨#[]⟩ : ByteArray)⟩ : S61) )) (Reps.none _ _))))))))); intro v162 w8 ho9 hb hg_ hnew_; clear hg_ hnew_; (first | rw [← Ny161.out] at ho9 | (simp only [Int.reduceToNat] at ho9; rw [← Ny161.out] at ho9)); have n0_ := Aside0.mk (Kd.R_elder' (by (with_reducible repeat (first | apply Kd.R_alloc | apply Kd.R_drewN | apply Kd.R_drew)); exact HO158.out) (Kd.R_base ho9) hb); have n1_ := Aside0.mk (Kd.R_lower (Kd.R_new' ho9 (Kd.R_lt (by (with_reducible repeat (first | apply Kd.R_alloc | apply Kd.R_drewN | apply Kd.R_drew)); exact HO158.out))) (below_size (by repeat (first | (with_reducible first | exact HB.out | apply below_alloc | apply pw_below_drewN | apply below_drew1) | exact HB.out)))); have n2_ := Aside0.mk (below_step (by repeat (first | (with_reducible first | exact HB.out | apply below_alloc | apply pw_below_drewN | apply below_drew1) | exact HB.out)) hb); clear HO158; clear HB; have HO158 := n0_; have HO163 := n1_; have HB := n2_; clear n0_ n1_ n2_; clear hb ho9; obtain ⟨Ao10, co10, eo10⟩ := Kd.R_slice HO163.out; subst eo10) | ((with_reducible refine gate_callee (f := 44) rfl ?_); refine goesL_ (some 39) rfl rfl Try.func44 (by kernel_rfl) rfl #[.string t159, .int .i64 0, .slice Ao10 y161.length co10] rfl (by (try simp only [List.map_toArray, List.map_cons, List.map_nil]); first | done | rfl | (simp only [List.length_drop, List.length_take]; rfl)) ?_; (with_reducible refine (stem_turn.calls k t159 0 _ _ y161 t164 t165 _ ?side1 ?side2 A3.out).mono ?_); (case side1 => repeat (first | exact (Kd.R_reads' HO163.out).2.2 | (with_reducible refine Kd.C_alloc ?_ _) | (with_reducible refine Kd.C_drewN ?_ _) | (with_reducible refine Kd.C_drew ?_))); (case side2 => exact (Kd.R_reads' HO163.out).2.1); rintro e w11 ⟨rfl, hb⟩; refine ⟨_, rfl, ?_⟩; have n0_ := Aside0.mk (Kd.R_below (by (with_reducible repeat (first | apply Kd.R_alloc | apply Kd.R_drewN | apply Kd.R_drew)); exact HO158.out) hb); have n1_ := Aside0.mk (Kd.R_below (by (with_reducible repeat (first | apply Kd.R_alloc | apply Kd.R_drewN | apply Kd.R_drew)); exact HO163.out) hb); have n2_ := Aside0.mk (below_step (by repeat (first | (with_reducible first | exact HB.out | apply below_alloc | apply pw_below_drewN | apply below_drew1) | exact HB.out)) hb); clear HO158; clear HO163; clear HB; have HO158 := n0_; have HO163 := n1_; have HB := n2_; clear n0_ n1_ n2_; (try clear hb); (try clear hb2); (try clear hk); (try clear hi)))
  go_ret
  exact ⟨by first | rfl | (simp [errW_none, errW_some] <;> rfl) | (simp [*, errW_none, errW_some] <;> rfl), by repeat (first | (with_reducible first | exact HB.out | apply below_alloc | apply pw_below_drewN | apply below_drew1) | exact HB.out)⟩

end Go.Proofs.Ytnemoodjbekngaa.PStem
