/-
  What stem.Stem, the head of the laws and plain compute. Conditions: those that each law states.
-/
import Derived.Test.YtnemoodjbekngaaStemx0
import Derived.Test.YtnemoodjbekngaaStemx1
import Derived.Test.YtnemoodjbekngaaStemx2
import Derived.Test.YtnemoodjbekngaaStemx3
namespace Go.Proofs.Ytnemoodjbekngaa.PStem
open Go.RowKit Go.Proofs.YtnemoodjbekngaaW.PrintWords Go.Proofs.YtnemoodjbekngaaW.PrintLast Go.Proofs.YtnemoodjbekngaaW.PrintMore
attribute [local go_sem] max2_int min2_int max_two min_two max_three min_three max_four min_four   -- for this text's walks alone
set_option linter.unusedVariables false
set_option linter.unusedSimpArgs false

/-! ### stem_Stem: function 12 -/
mutual
def stem_Stem.l0 : Nat → ByteArray → Int → Int → Option (ByteArray)
  | 0, _, _, _ => none
  | k + 1, x0, x11, x12 => if x12 < x11 then (if 0 ≤ x12 then (if x12 < (x0.size : Int) then (if (bt x0 x12) < 97 then (some x0) else (if (bt x0 x12) > 122 then (some x0) else (stem_Stem.l0 k x0 x11 (wrap64 (x12 + 1))))) else (none)) else (none)) else ((stem_plural.f k x0).bind fun t166 => ((stem_past.f k t166).bind fun t167 => ((strings_CutSuffix.f t167 (⟨#[121]⟩ : ByteArray)).bind fun bt168 => (if bt168.2 = true then ((stem_has.f k bt168.1).bind fun t170 => (stem_Stem.j1 k t167 bt168.1 t170)) else (stem_Stem.j1 k t167 bt168.1 false)))))
def stem_Stem.j1 : Nat → ByteArray → ByteArray → Bool → Option (ByteArray)
  | 0, _, _, _ => none
  | k + 1, x0, x4, x39 => if x39 = true then (if x4.size + 1 ≤ 9223372036854775807 then ((stem_second.f k (x4 ++ (⟨#[105]⟩ : ByteArray))).bind fun t171 => ((stem_fourth.f k t171).bind fun t172 => ((stem_fifth.f k t172).bind fun t173 => (some t173)))) else (none)) else ((stem_second.f k x0).bind fun t174 => ((stem_fourth.f k t174).bind fun t175 => ((stem_fifth.f k t175).bind fun t176 => (some t176))))
end
def stem_Stem.f (k : Nat) (a0 : ByteArray) : Option (ByteArray) := if (a0.size : Int) < 3 then (some a0) else (stem_Stem.l0 k a0 (a0.size : Int) 0)
theorem stem_Stem.mono_l : ∀ k, (∀ y0 y1 y2, LeO (stem_Stem.l0 k y0 y1 y2) (stem_Stem.l0 (k + 1) y0 y1 y2)) ∧ (∀ y0 y1 y2, LeO (stem_Stem.j1 k y0 y1 y2) (stem_Stem.j1 (k + 1) y0 y1 y2))
  | 0 => ⟨fun _ _ _ r h => by simp [stem_Stem.l0] at h, fun _ _ _ r h => by simp [stem_Stem.j1] at h⟩
  | k + 1 => by
    obtain ⟨ih0, ih1⟩ := stem_Stem.mono_l k
    refine ⟨?_, ?_⟩
    · intro y0 y1 y2
      unfold stem_Stem.l0
      repeat' first
      | (with_reducible exact ih0 _ _ _)
      | (with_reducible exact ih1 _ _ _)
      | (with_reducible exact stem_fifth.mono _ _)
      | (with_reducible exact stem_fourth.mono _ _)
      | (with_reducible exact stem_has.mono _ _)
      | (with_reducible exact stem_past.mono _ _)
      | (with_reducible exact stem_plural.mono _ _)
      | (with_reducible exact stem_second.mono _ _)
      | (with_reducible exact LeO.refl _)
      | (with_reducible exact LeO.none _)
      | (with_reducible refine LeO.ite ?_ ?_)
      | (with_reducible refine LeO.bind ?_ (fun _ => ?_))
      | exact ih0 _ _ _
      | exact ih1 _ _ _
      | exact stem_fifth.mono _ _
      | exact stem_fourth.mono _ _
      | exact stem_has.mono _ _
      | exact stem_past.mono _ _
      | exact stem_plural.mono _ _
      | exact stem_second.mono _ _
      | exact LeO.none _
      | refine LeO.ite ?_ ?_
      | refine LeO.bind ?_ (fun _ => ?_)
    · intro y0 y1 y2
      unfold stem_Stem.j1
      repeat' first
      | (with_reducible exact ih0 _ _ _)
      | (with_reducible exact ih1 _ _ _)
      | (with_reducible exact stem_fifth.mono _ _)
      | (with_reducible exact stem_fourth.mono _ _)
      | (with_reducible exact stem_has.mono _ _)
      | (with_reducible exact stem_past.mono _ _)
      | (with_reducible exact stem_plural.mono _ _)
      | (with_reducible exact stem_second.mono _ _)
      | (with_reducible exact LeO.refl _)
      | (with_reducible exact LeO.none _)
      | (with_reducible refine LeO.ite ?_ ?_)
      | (with_reducible refine LeO.bind ?_ (fun _ => ?_))
      | exact ih0 _ _ _
      | exact ih1 _ _ _
      | exact stem_fifth.mono _ _
      | exact stem_fourth.mono _ _
      | exact stem_has.mono _ _
      | exact stem_past.mono _ _
      | exact stem_plural.mono _ _
      | exact stem_second.mono _ _
      | exact LeO.none _
      | refine LeO.ite ?_ ?_
      | refine LeO.bind ?_ (fun _ => ?_)
theorem stem_Stem.mono : ∀ a0 k, LeO (stem_Stem.f k a0) (stem_Stem.f (k + 1) a0) := by
  intro a0 k
  obtain ⟨ih0, ih1⟩ := stem_Stem.mono_l k
  unfold stem_Stem.f
  repeat' first
      | (with_reducible exact ih0 _ _ _)
      | (with_reducible exact ih1 _ _ _)
      | (with_reducible exact stem_fifth.mono _ _)
      | (with_reducible exact stem_fourth.mono _ _)
      | (with_reducible exact stem_has.mono _ _)
      | (with_reducible exact stem_past.mono _ _)
      | (with_reducible exact stem_plural.mono _ _)
      | (with_reducible exact stem_second.mono _ _)
      | (with_reducible exact LeO.refl _)
      | (with_reducible exact LeO.none _)
      | (with_reducible refine LeO.ite ?_ ?_)
      | (with_reducible refine LeO.bind ?_ (fun _ => ?_))
      | exact ih0 _ _ _
      | exact ih1 _ _ _
      | exact stem_fifth.mono _ _
      | exact stem_fourth.mono _ _
      | exact stem_has.mono _ _
      | exact stem_past.mono _ _
      | exact stem_plural.mono _ _
      | exact stem_second.mono _ _
      | exact LeO.none _
      | refine LeO.ite ?_ ?_
      | refine LeO.bind ?_ (fun _ => ?_)
set_option maxHeartbeats 8000000 in
set_option maxRecDepth 100000 in
theorem stem_Stem.calls (k : Nat) (a0 : ByteArray) (r : ByteArray) (w : World) (h : stem_Stem.f k a0 = some r) :
    Calls Try.prog 12 #[.string a0] w fun e w' => e = .returned (.string r) ∧ Below w.heap.size w w' := by
  have HB := Aside0.mk (Below.refl w.heap.size w)
  have H : (if (a0.size : Int) < 3 then (some a0) else (stem_Stem.l0 k a0 (a0.size : Int) 0)) = some r := h
  clear h
  by_cases c2 : (a0.size : Int) < 3
  · rw [if_pos c2] at H
    have c2b0 : decide ((a0.size : Int) < 3) = true := decide_eq_true c2
    have c2b1 : decide (a0.size < 3) = true := decide_eq_true (by omega)
    clear c2
    obtain rfl := Option.some.inj H
    go_enter Try.func12, Try.ntmps12
    go_wp2
    go_ret
    exact ⟨by first | rfl | (simp [errW_none, errW_some] <;> rfl) | (simp [*, errW_none, errW_some] <;> rfl), by repeat (first | (with_reducible first | exact HB.out | apply below_alloc | apply pw_below_drewN | apply below_drew1) | exact HB.out)⟩
  · rw [if_neg c2] at H
    have c2b0 : decide ((a0.size : Int) < 3) = false := decide_eq_false c2
    have c2b1 : decide (a0.size < 3) = false := decide_eq_false (by omega)
    clear c2
    have H' := Aside0.mk H
    clear H
    go_enter Try.func12, Try.ntmps12
    go_wp2
    go_loopg [12] k (fun kq v12 w' => ∃ (x12_1 : Int), v12 = .int .i64 x12_1 ∧ Aside0 (stem_Stem.l0 kq a0 (a0.size : Int) x12_1 = some r) ∧ Aside0 (kq ≤ k) ∧ Aside0 (Below w.heap.size w w'))
    case atStart => exact ⟨(0), (by first | rfl | (simp; done) | (simp [*]; done)), H', ⟨Nat.le_refl _⟩, ⟨by repeat (first | (with_reducible first | exact HB.out | apply below_alloc | apply pw_below_drewN | apply below_drew1) | exact HB.out)⟩⟩
    case round =>
      clear H'
      try clear c1
      try clear c2
      try clear c2b0
      try clear c2b1
      try clear p2
      obtain ⟨x12_1, rfl, HA, HK1, HB⟩ := hrel
      cases gk with
      | zero => exact absurd HA.out (by simp [stem_Stem.l0])
      | succ k1 =>
        have H := HA.out
        clear HA
        simp only [stem_Stem.l0] at H
        by_cases c3 : x12_1 < (a0.size : Int)
        · rw [if_pos c3] at H
          have c3b0 : decide (x12_1 < (a0.size : Int)) = true := decide_eq_true c3
          clear c3
          by_cases c4 : 0 ≤ x12_1
          · rw [if_pos c4] at H
            have c4b0 : decide (0 ≤ x12_1) = true := decide_eq_true c4
            clear c4
            by_cases c5 : x12_1 < (a0.size : Int)
            · rw [if_pos c5] at H
              have c5b0 : decide (x12_1 < (a0.size : Int)) = true := decide_eq_true c5
              clear c5
              by_cases c7 : (bt a0 x12_1) < 97
              · rw [if_pos c7] at H
                have c7b0 : decide ((bt a0 x12_1) < 97) = true := decide_eq_true c7
                clear c7
                obtain rfl := Option.some.inj H
                have p6 : 0 ≤ (x12_1 : Int) := of_decide_eq_true (by first | (with_reducible assumption) | assumption)
                have q6 : x12_1 < (a0.size : Int) := of_decide_eq_true (by first | (with_reducible assumption) | assumption)
                have hx6 := bt_at a0 x12_1
                replace p6 := eq_true p6
                replace q6 := eq_true q6
                go_wp2
                go_ret
                exact ⟨by first | rfl | (simp [errW_none, errW_some] <;> rfl) | (simp [*, errW_none, errW_some] <;> rfl), by repeat (first | (with_reducible first | exact HB.out | apply below_alloc | apply pw_below_drewN | apply below_drew1) | exact HB.out)⟩
              · rw [if_neg c7] at H
                have c7b0 : decide ((bt a0 x12_1) < 97) = false := decide_eq_false c7
                clear c7
                by_cases c9 : (bt a0 x12_1) > 122
                · rw [if_pos c9] at H
                  have c9b0 : decide (122 < (bt a0 x12_1)) = true := decide_eq_true c9
                  clear c9
                  obtain rfl := Option.some.inj H
                  have p6 : 0 ≤ (x12_1 : Int) := of_decide_eq_true (by first | (with_reducible assumption) | assumption)
                  have q6 : x12_1 < (a0.size : Int) := of_decide_eq_true (by first | (with_reducible assumption) | assumption)
                  have hx6 := bt_at a0 x12_1
                  replace p6 := eq_true p6
                  replace q6 := eq_true q6
                  have p8 : 0 ≤ (x12_1 : Int) := of_decide_eq_true (by first | (with_reducible assumption) | assumption)
                  have q8 : x12_1 < (a0.size : Int) := of_decide_eq_true (by first | (with_reducible assumption) | assumption)
                  have hx8 := bt_at a0 x12_1
                  replace p8 := eq_true p8
                  replace q8 := eq_true q8
                  go_wp2
                  go_ret
                  exact ⟨by first | rfl | (simp [errW_none, errW_some] <;> rfl) | (simp [*, errW_none, errW_some] <;> rfl), by repeat (first | (with_reducible first | exact HB.out | apply below_alloc | apply pw_below_drewN | apply below_drew1) | exact HB.out)⟩
                · rw [if_neg c9] at H
                  have c9b0 : decide (122 < (bt a0 x12_1)) = false := decide_eq_false c9
                  clear c9
                  have H' := Aside0.mk H
                  clear H
                  have p6 : 0 ≤ (x12_1 : Int) := of_decide_eq_true (by first | (with_reducible assumption) | assumption)
                  have q6 : x12_1 < (a0.size : Int) := of_decide_eq_true (by first | (with_reducible assumption) | assumption)
                  have hx6 := bt_at a0 x12_1
                  replace p6 := eq_true p6
                  replace q6 := eq_true q6
                  have p8 : 0 ≤ (x12_1 : Int) := of_decide_eq_true (by first | (with_reducible assumption) | assumption)
                  have q8 : x12_1 < (a0.size : Int) := of_decide_eq_true (by first | (with_reducible assumption) | assumption)
                  have hx8 := bt_at a0 x12_1
                  replace p8 := eq_true p8
                  replace q8 := eq_true q8
                  go_wp2
                  go_roundg k1
                  case measure => have := HK1.out; omega
                  case rel => exact ⟨(wrap64 (x12_1 + 1)), (by first | rfl | (simp; done) | (simp [*]; done)), H', ⟨by have := HK1.out; omega⟩, ⟨by repeat (first | (with_reducible first | exact HB.out | apply below_alloc | apply pw_below_drewN | apply below_drew1) | exact HB.out)⟩⟩
            · rw [if_neg c5] at H
              exact absurd H (by simp)
          · rw [if_neg c4] at H
            exact absurd H (by simp)
        · rw [if_neg c3] at H
          have c3b0 : decide (x12_1 < (a0.size : Int)) = false := decide_eq_false c3
          clear c3
          replace H := Option.bind_eq_some_iff.mp H
          obtain ⟨t166, A100, H⟩ := H
          replace H : ((stem_past.f k1 t166).bind fun t167 => ((strings_CutSuffix.f t167 (⟨#[121]⟩ : ByteArray)).bind fun bt168 => (if bt168.2 = true then ((stem_has.f k1 bt168.1).bind fun t170 => (stem_Stem.j1 k1 t167 bt168.1 t170)) else (stem_Stem.j1 k1 t167 bt168.1 false)))) = some r := H
          have A10 := Aside0.mk A100
          clear A100
          replace H := Option.bind_eq_some_iff.mp H
          obtain ⟨t167, A110, H⟩ := H
          replace H : ((strings_CutSuffix.f t167 (⟨#[121]⟩ : ByteArray)).bind fun bt168 => (if bt168.2 = true then ((stem_has.f k1 bt168.1).bind fun t170 => (stem_Stem.j1 k1 t167 bt168.1 t170)) else (stem_Stem.j1 k1 t167 bt168.1 false))) = some r := H
          have A11 := Aside0.mk A110
          clear A110
          replace H := Option.bind_eq_some_iff.mp H
          obtain ⟨⟨t168, t169⟩, A120, H⟩ := H
          replace H : (if t169 = true then ((stem_has.f k1 t168).bind fun t170 => (stem_Stem.j1 k1 t167 t168 t170)) else (stem_Stem.j1 k1 t167 t168 false)) = some r := H
          have A12 := Aside0.mk A120
          clear A120
          have HC13 := Aside0.mk H
          clear H
          go_upto_region 11 with (first | ((with_reducible refine gate_callee (f := 27) rfl ?_); refine goesL_ (some 28) rfl rfl Try.func27 (by kernel_rfl) rfl #[.string a0] rfl (by (try simp only [List.map_toArray, List.map_cons, List.map_nil]); first | done | rfl | (simp only [List.length_drop, List.length_take]; rfl)) ?_; (with_reducible refine (stem_plural.calls k1 a0 t166 _ A10.out).mono ?_); rintro e w' ⟨rfl, ⟨nd, rfl⟩⟩; refine ⟨_, rfl, ?_⟩) | ((with_reducible refine gate_callee (f := 26) rfl ?_); refine goesL_ (some 29) rfl rfl Try.func26 (by kernel_rfl) rfl #[.string t166] rfl (by (try simp only [List.map_toArray, List.map_cons, List.map_nil]); first | done | rfl | (simp only [List.length_drop, List.length_take]; rfl)) ?_; (with_reducible refine (stem_past.calls k1 t166 t167 _ A11.out).mono ?_); rintro e w' ⟨rfl, ⟨nd, rfl⟩⟩; refine ⟨_, rfl, ?_⟩) | ((with_reducible refine gate_callee (f := 28) rfl ?_); refine goesL_ (some 32) rfl rfl Try.func28 (by kernel_rfl) rfl #[.string t167, .string (⟨#[121]⟩ : ByteArray)] rfl (by (try simp only [List.map_toArray, List.map_cons, List.map_nil]); first | done | rfl | (simp only [List.length_drop, List.length_take]; rfl)) ?_; (with_reducible refine (strings_CutSuffix.calls t167 (⟨#[121]⟩ : ByteArray) t168 t169 _ A12.out).mono ?_); rintro e w' ⟨rfl, ⟨nd, rfl⟩⟩; refine ⟨_, rfl, ?_⟩))
          (try simp only [Act.put, List.setIfInBounds_toArray, List.set_cons_zero, List.set_cons_succ])
          go_cut [39] (fun v39 wc => ∃ (kq : Nat) (x39_12 : Bool), v39 = .bool x39_12 ∧ Aside0 (stem_Stem.j1 kq t167 t168 x39_12 = some r) ∧ Aside0 (kq ≤ k1) ∧ Aside0 (Below w.heap.size w wc))
          case first =>
            have H := HC13.out
            clear HC13
            by_cases c14 : t169 = true
            · subst c14
              have H1 : ((stem_has.f k1 t168).bind fun t170 => (stem_Stem.j1 k1 t167 t168 t170)) = some r := by rw [if_pos rfl] at H; exact H
              clear H
              have H := H1
              clear H1
              replace H := Option.bind_eq_some_iff.mp H
              obtain ⟨t170, A150, H⟩ := H
              replace H : (stem_Stem.j1 k1 t167 t168 t170) = some r := H
              have A15 := Aside0.mk A150
              clear A150
              have H' := Aside0.mk H
              clear H
              go_wp2_with (first | (go_at_call 29; (with_reducible refine (stem_has.calls k1 t168 t170 _ A15.out).mono ?_); rintro e w' ⟨rfl, ⟨nd, rfl⟩⟩))
              go_meet
              case rel => exact ⟨_, (t170), (by first | rfl | (simp; done) | (simp [*]; done)), H', ⟨by have := HK1.out; first | omega | exact Nat.le_refl _⟩, ⟨by repeat (first | (with_reducible first | exact HB.out | apply below_alloc | apply pw_below_drewN | apply below_drew1) | exact HB.out)⟩⟩
            · replace c14 := Bool.eq_false_iff.mpr c14
              subst c14
              have H1 : (stem_Stem.j1 k1 t167 t168 false) = some r := by rw [if_neg (show ¬ (false = true) by decide)] at H; exact H
              clear H
              have H := H1
              clear H1
              have H' := Aside0.mk H
              clear H
              go_wp2
              go_meet
              case rel => exact ⟨_, (false), (by first | rfl | (simp; done) | (simp [*]; done)), H', ⟨by have := HK1.out; first | omega | exact Nat.le_refl _⟩, ⟨by repeat (first | (with_reducible first | exact HB.out | apply below_alloc | apply pw_below_drewN | apply below_drew1) | exact HB.out)⟩⟩
          case rest =>
            clear HC13
            try clear c1
            try clear c2
            try clear c2b0
            try clear c2b1
            try clear p2
            try clear c3
            try clear c3b0
            try clear c4
            try clear c4b0
            try clear c5
            try clear c5b0
            try clear p6
            try clear q6
            try clear hx6
            try clear c7
            try clear c7b0
            try clear p8
            try clear q8
            try clear hx8
            try clear c9
            try clear c9b0
            try clear c12
            try clear c14
            try clear p2
            try clear p6
            try clear p8
            try clear q6
            try clear q8
            obtain ⟨kq, x39_12, rfl, HA, HJ12, HB⟩ := hcut
            cases kq with
            | zero => exact absurd HA.out (by simp [stem_Stem.j1])
            | succ kj12 =>
              have H := HA.out
              clear HA
              simp only [stem_Stem.j1] at H
              by_cases c16 : x39_12 = true
              · subst c16
                have H1 : (if t168.size + 1 ≤ 9223372036854775807 then ((stem_second.f kj12 (t168 ++ (⟨#[105]⟩ : ByteArray))).bind fun t171 => ((stem_fourth.f kj12 t171).bind fun t172 => ((stem_fifth.f kj12 t172).bind fun t173 => (some t173)))) else (none)) = some r := by rw [if_pos rfl] at H; exact H
                clear H
                have H := H1
                clear H1
                by_cases c17 : t168.size + 1 ≤ 9223372036854775807
                · rw [if_pos c17] at H
                  have c17b0 := eq_true c17
                  have c17b1 : decide (t168.size + 1 ≤ 9223372036854775807) = true := decide_eq_true c17
                  try have c17b2 : (9223372036854775807 < t168.size + 1) = False := eq_false (Nat.not_lt.2 c17)
                  replace H := Option.bind_eq_some_iff.mp H
                  obtain ⟨t171, A180, H⟩ := H
                  replace H : ((stem_fourth.f kj12 t171).bind fun t172 => ((stem_fifth.f kj12 t172).bind fun t173 => (some t173))) = some r := H
                  have A18 := Aside0.mk A180
                  clear A180
                  replace H := Option.bind_eq_some_iff.mp H
                  obtain ⟨t172, A190, H⟩ := H
                  replace H : ((stem_fifth.f kj12 t172).bind fun t173 => (some t173)) = some r := H
                  have A19 := Aside0.mk A190
                  clear A190
                  replace H := Option.bind_eq_some_iff.mp H
                  obtain ⟨t173, A200, H⟩ := H
                  replace H : (some t173) = some r := H
                  have A20 := Aside0.mk A200
                  clear A200
                  obtain rfl := Option.some.inj H
                  go_wp2_with (first | ((with_reducible refine gate_callee (f := 32) rfl ?_); refine goesL_ (some 43) rfl rfl Try.func32 (by kernel_rfl) rfl #[.string (t168 ++ (⟨#[105]⟩ : ByteArray))] rfl (by (try simp only [List.map_toArray, List.map_cons, List.map_nil]); first | done | rfl | (simp only [List.length_drop, List.length_take]; rfl)) ?_; (with_reducible refine (stem_second.calls kj12 (t168 ++ (⟨#[105]⟩ : ByteArray)) t171 _ A18.out).mono ?_); rintro e w21 ⟨rfl, hb⟩; refine ⟨_, rfl, ?_⟩; have n0_ := Aside0.mk (below_step (by repeat (first | (with_reducible first | exact HB.out | apply below_alloc | apply pw_below_drewN | apply below_drew1) | exact HB.out)) hb); clear HB; have HB := n0_; clear n0_; (try clear hb); (try clear hb2); (try clear hk); (try clear hi)) | ((with_reducible refine gate_callee (f := 31) rfl ?_); refine goesL_ (some 44) rfl rfl Try.func31 (by kernel_rfl) rfl #[.string t171] rfl (by (try simp only [List.map_toArray, List.map_cons, List.map_nil]); first | done | rfl | (simp only [List.length_drop, List.length_take]; rfl)) ?_; (with_reducible refine (stem_fourth.calls kj12 t171 t172 _ A19.out).mono ?_); rintro e w22 ⟨rfl, hb⟩; refine ⟨_, rfl, ?_⟩; have n0_ := Aside0.mk (below_step (by repeat (first | (with_reducible first | exact HB.out | apply below_alloc | apply pw_below_drewN | apply below_drew1) | exact HB.out)) hb); clear HB; have HB := n0_; clear n0_; (try clear hb); (try clear hb2); (try clear hk); (try clear hi)) | ((with_reducible refine gate_callee (f := 30) rfl ?_); refine goesL_ (some 45) rfl rfl Try.func30 (by kernel_rfl) rfl #[.string t172] rfl (by (try simp only [List.map_toArray, List.map_cons, List.map_nil]); first | done | rfl | (simp only [List.length_drop, List.length_take]; rfl)) ?_; (with_reducible refine (stem_fifth.calls kj12 t172 t173 _ A20.out).mono ?_); rintro e w' ⟨rfl, ⟨nd, rfl⟩⟩; refine ⟨_, rfl, ?_⟩))
                  go_ret
                  exact ⟨by first | rfl | (simp [errW_none, errW_some] <;> rfl) | (simp [*, errW_none, errW_some] <;> rfl), by repeat (first | (with_reducible first | exact HB.out | apply below_alloc | apply pw_below_drewN | apply below_drew1) | exact HB.out)⟩
                · rw [if_neg c17] at H
                  exact absurd H (by simp)
              · replace c16 := Bool.eq_false_iff.mpr c16
                subst c16
                have H1 : ((stem_second.f kj12 t167).bind fun t174 => ((stem_fourth.f kj12 t174).bind fun t175 => ((stem_fifth.f kj12 t175).bind fun t176 => (some t176)))) = some r := by rw [if_neg (show ¬ (false = true) by decide)] at H; exact H
                clear H
                have H := H1
                clear H1
                replace H := Option.bind_eq_some_iff.mp H
                obtain ⟨t174, A230, H⟩ := H
                replace H : ((stem_fourth.f kj12 t174).bind fun t175 => ((stem_fifth.f kj12 t175).bind fun t176 => (some t176))) = some r := H
                have A23 := Aside0.mk A230
                clear A230
                replace H := Option.bind_eq_some_iff.mp H
                obtain ⟨t175, A240, H⟩ := H
                replace H : ((stem_fifth.f kj12 t175).bind fun t176 => (some t176)) = some r := H
                have A24 := Aside0.mk A240
                clear A240
                replace H := Option.bind_eq_some_iff.mp H
                obtain ⟨t176, A250, H⟩ := H
                replace H : (some t176) = some r := H
                have A25 := Aside0.mk A250
                clear A250
                obtain rfl := Option.some.inj H
                go_wp2_with (first | ((with_reducible refine gate_callee (f := 32) rfl ?_); refine goesL_ (some 43) rfl rfl Try.func32 (by kernel_rfl) rfl #[.string t167] rfl (by (try simp only [List.map_toArray, List.map_cons, List.map_nil]); first | done | rfl | (simp only [List.length_drop, List.length_take]; rfl)) ?_; (with_reducible refine (stem_second.calls kj12 t167 t174 _ A23.out).mono ?_); rintro e w26 ⟨rfl, hb⟩; refine ⟨_, rfl, ?_⟩; have n0_ := Aside0.mk (below_step (by repeat (first | (with_reducible first | exact HB.out | apply below_alloc | apply pw_below_drewN | apply below_drew1) | exact HB.out)) hb); clear HB; have HB := n0_; clear n0_; (try clear hb); (try clear hb2); (try clear hk); (try clear hi)) | ((with_reducible refine gate_callee (f := 31) rfl ?_); refine goesL_ (some 44) rfl rfl Try.func31 (by kernel_rfl) rfl #[.string t174] rfl (by (try simp only [List.map_toArray, List.map_cons, List.map_nil]); first | done | rfl | (simp only [List.length_drop, List.length_take]; rfl)) ?_; (with_reducible refine (stem_fourth.calls kj12 t174 t175 _ A24.out).mono ?_); rintro e w27 ⟨rfl, hb⟩; refine ⟨_, rfl, ?_⟩; have n0_ := Aside0.mk (below_step (by repeat (first | (with_reducible first | exact HB.out | apply below_alloc | apply pw_below_drewN | apply below_drew1) | exact HB.out)) hb); clear HB; have HB := n0_; clear n0_; (try clear hb); (try clear hb2); (try clear hk); (try clear hi)) | ((with_reducible refine gate_callee (f := 30) rfl ?_); refine goesL_ (some 45) rfl rfl Try.func30 (by kernel_rfl) rfl #[.string t175] rfl (by (try simp only [List.map_toArray, List.map_cons, List.map_nil]); first | done | rfl | (simp only [List.length_drop, List.length_take]; rfl)) ?_; (with_reducible refine (stem_fifth.calls kj12 t175 t176 _ A25.out).mono ?_); rintro e w' ⟨rfl, ⟨nd, rfl⟩⟩; refine ⟨_, rfl, ?_⟩))
                go_ret
                exact ⟨by first | rfl | (simp [errW_none, errW_some] <;> rfl) | (simp [*, errW_none, errW_some] <;> rfl), by repeat (first | (with_reducible first | exact HB.out | apply below_alloc | apply pw_below_drewN | apply below_drew1) | exact HB.out)⟩

/-! ### catchwordlaw03_head: function 11 -/
def catchwordlaw03_head.f (k : Nat)  : Option (Bool) := (stem_Stem.f k (⟨#[114, 101, 108, 97, 116, 105, 111, 110, 97, 108]⟩ : ByteArray)).bind fun t177 => (if t177.toList = ([114, 101, 108, 97, 116] : List UInt8) then ((stem_Stem.f k (⟨#[104, 111, 112, 112, 105, 110, 103]⟩ : ByteArray)).bind fun t178 => (if t178.toList = ([104, 111, 112] : List UInt8) then ((stem_Stem.f k (⟨#[99, 97, 114, 101, 115, 115, 101, 115]⟩ : ByteArray)).bind fun t179 => (if t179.toList = ([99, 97, 114, 101, 115, 115] : List UInt8) then ((stem_Stem.f k (⟨#[115, 107, 121]⟩ : ByteArray)).bind fun t180 => (if t180.toList = ([115, 107, 121] : List UInt8) then ((stem_Stem.f k (⟨#[104, 97, 112, 112, 121]⟩ : ByteArray)).bind fun t181 => (some (t181.toList == ([104, 97, 112, 112, 105] : List UInt8)))) else (some false))) else (some false))) else (some false))) else (some false))
theorem catchwordlaw03_head.mono : ∀ k, LeO (catchwordlaw03_head.f k ) (catchwordlaw03_head.f (k + 1) ) := by
  intro  k
  unfold catchwordlaw03_head.f
  repeat' first
      | (with_reducible exact stem_Stem.mono _ _)
      | (with_reducible exact LeO.refl _)
      | (with_reducible exact LeO.none _)
      | (with_reducible refine LeO.ite ?_ ?_)
      | (with_reducible refine LeO.bind ?_ (fun _ => ?_))
      | exact stem_Stem.mono _ _
      | exact LeO.none _
      | refine LeO.ite ?_ ?_
      | refine LeO.bind ?_ (fun _ => ?_)
set_option maxHeartbeats 8000000 in
set_option maxRecDepth 100000 in
theorem catchwordlaw03_head.calls (k : Nat)  (r : Bool) (w : World) (h : catchwordlaw03_head.f k  = some r) :
    Calls Try.prog 11 #[] w fun e w' => e = .returned (.bool r) ∧ Below w.heap.size w w' := by
  have HB := Aside0.mk (Below.refl w.heap.size w)
  have H : ((stem_Stem.f k (⟨#[114, 101, 108, 97, 116, 105, 111, 110, 97, 108]⟩ : ByteArray)).bind fun t177 => (if t177.toList = ([114, 101, 108, 97, 116] : List UInt8) then ((stem_Stem.f k (⟨#[104, 111, 112, 112, 105, 110, 103]⟩ : ByteArray)).bind fun t178 => (if t178.toList = ([104, 111, 112] : List UInt8) then ((stem_Stem.f k (⟨#[99, 97, 114, 101, 115, 115, 101, 115]⟩ : ByteArray)).bind fun t179 => (if t179.toList = ([99, 97, 114, 101, 115, 115] : List UInt8) then ((stem_Stem.f k (⟨#[115, 107, 121]⟩ : ByteArray)).bind fun t180 => (if t180.toList = ([115, 107, 121] : List UInt8) then ((stem_Stem.f k (⟨#[104, 97, 112, 112, 121]⟩ : ByteArray)).bind fun t181 => (some (t181.toList == ([104, 97, 112, 112, 105] : List UInt8)))) else (some false))) else (some false))) else (some false))) else (some false))) = some r := h
  clear h
  replace H := Option.bind_eq_some_iff.mp H
  obtain ⟨t177, A10, H⟩ := H
  replace H : (if t177.toList = ([114, 101, 108, 97, 116] : List UInt8) then ((stem_Stem.f k (⟨#[104, 111, 112, 112, 105, 110, 103]⟩ : ByteArray)).bind fun t178 => (if t178.toList = ([104, 111, 112] : List UInt8) then ((stem_Stem.f k (⟨#[99, 97, 114, 101, 115, 115, 101, 115]⟩ : ByteArray)).bind fun t179 => (if t179.toList = ([99, 97, 114, 101, 115, 115] : List UInt8) then ((stem_Stem.f k (⟨#[115, 107, 121]⟩ : ByteArray)).bind fun t180 => (if t180.toList = ([115, 107, 121] : List UInt8) then ((stem_Stem.f k (⟨#[104, 97, 112, 112, 121]⟩ : ByteArray)).bind fun t181 => (some (t181.toList == ([104, 97, 112, 112, 105] : List UInt8)))) else (some false))) else (some false))) else (some false))) else (some false)) = some r := H
  have A1 := Aside0.mk A10
  clear A10
  by_cases c2 : t177.toList = ([114, 101, 108, 97, 116] : List UInt8)
  · rw [if_pos c2] at H
    have c2b0 : (t177.toList == ([114, 101, 108, 97, 116] : List UInt8)) = true := beq_iff_eq.mpr c2
    have c2b1 : (t177.toList != ([114, 101, 108, 97, 116] : List UInt8)) = false := bne_eq_false_iff_eq.mpr c2
    clear c2
    replace H := Option.bind_eq_some_iff.mp H
    obtain ⟨t178, A30, H⟩ := H
    replace H : (if t178.toList = ([104, 111, 112] : List UInt8) then ((stem_Stem.f k (⟨#[99, 97, 114, 101, 115, 115, 101, 115]⟩ : ByteArray)).bind fun t179 => (if t179.toList = ([99, 97, 114, 101, 115, 115] : List UInt8) then ((stem_Stem.f k (⟨#[115, 107, 121]⟩ : ByteArray)).bind fun t180 => (if t180.toList = ([115, 107, 121] : List UInt8) then ((stem_Stem.f k (⟨#[104, 97, 112, 112, 121]⟩ : ByteArray)).bind fun t181 => (some (t181.toList == ([104, 97, 112, 112, 105] : List UInt8)))) else (some false))) else (some false))) else (some false)) = some r := H
    have A3 := Aside0.mk A30
    clear A30
    by_cases c4 : t178.toList = ([104, 111, 112] : List UInt8)
    · rw [if_pos c4] at H
      have c4b0 : (t178.toList == ([104, 111, 112] : List UInt8)) = true := beq_iff_eq.mpr c4
      have c4b1 : (t178.toList != ([104, 111, 112] : List UInt8)) = false := bne_eq_false_iff_eq.mpr c4
      clear c4
      replace H := Option.bind_eq_some_iff.mp H
      obtain ⟨t179, A50, H⟩ := H
      replace H : (if t179.toList = ([99, 97, 114, 101, 115, 115] : List UInt8) then ((stem_Stem.f k (⟨#[115, 107, 121]⟩ : ByteArray)).bind fun t180 => (if t180.toList = ([115, 107, 121] : List UInt8) then ((stem_Stem.f k (⟨#[104, 97, 112, 112, 121]⟩ : ByteArray)).bind fun t181 => (some (t181.toList == ([104, 97, 112, 112, 105] : List UInt8)))) else (some false))) else (some false)) = some r := H
      have A5 := Aside0.mk A50
      clear A50
      by_cases c6 : t179.toList = ([99, 97, 114, 101, 115, 115] : List UInt8)
      · rw [if_pos c6] at H
        have c6b0 : (t179.toList == ([99, 97, 114, 101, 115, 115] : List UInt8)) = true := beq_iff_eq.mpr c6
        have c6b1 : (t179.toList != ([99, 97, 114, 101, 115, 115] : List UInt8)) = false := bne_eq_false_iff_eq.mpr c6
        clear c6
        replace H := Option.bind_eq_some_iff.mp H
        obtain ⟨t180, A70, H⟩ := H
        replace H : (if t180.toList = ([115, 107, 121] : List UInt8) then ((stem_Stem.f k (⟨#[104, 97, 112, 112, 121]⟩ : ByteArray)).bind fun t181 => (some (t181.toList == ([104, 97, 112, 112, 105] : List UInt8)))) else (some false)) = some r := H
        have A7 := Aside0.mk A70
        clear A70
        by_cases c8 : t180.toList = ([115, 107, 121] : List UInt8)
        · rw [if_pos c8] at H
          have c8b0 : (t180.toList == ([115, 107, 121] : List UInt8)) = true := beq_iff_eq.mpr c8
          have c8b1 : (t180.toList != ([115, 107, 121] : List UInt8)) = false := bne_eq_false_iff_eq.mpr c8
          clear c8
          replace H := Option.bind_eq_some_iff.mp H
          obtain ⟨t181, A90, H⟩ := H
          replace H : (some (t181.toList == ([104, 97, 112, 112, 105] : List UInt8))) = some r := H
          have A9 := Aside0.mk A90
          clear A90
          obtain rfl := Option.some.inj H
          go_enter Try.func11, Try.ntmps11
          go_wp2_with (first | ((with_reducible refine gate_callee (f := 12) rfl ?_); refine goesL_ (some 1) rfl rfl Try.func12 (by kernel_rfl) rfl #[.string (⟨#[114, 101, 108, 97, 116, 105, 111, 110, 97, 108]⟩ : ByteArray)] rfl (by (try simp only [List.map_toArray, List.map_cons, List.map_nil]); first | done | rfl | (simp only [List.length_drop, List.length_take]; rfl)) ?_; (with_reducible refine (stem_Stem.calls k (⟨#[114, 101, 108, 97, 116, 105, 111, 110, 97, 108]⟩ : ByteArray) t177 _ A1.out).mono ?_); rintro e w10 ⟨rfl, hb⟩; refine ⟨_, rfl, ?_⟩; have n0_ := Aside0.mk (below_step (by repeat (first | (with_reducible first | exact HB.out | apply below_alloc | apply pw_below_drewN | apply below_drew1) | exact HB.out)) hb); clear HB; have HB := n0_; clear n0_; (try clear hb); (try clear hb2); (try clear hk); (try clear hi)) | (go_at_call 12; (with_reducible refine (stem_Stem.calls k (⟨#[104, 111, 112, 112, 105, 110, 103]⟩ : ByteArray) t178 _ A3.out).mono ?_); rintro e w11 ⟨rfl, hb⟩; have n0_ := Aside0.mk (below_step (by repeat (first | (with_reducible first | exact HB.out | apply below_alloc | apply pw_below_drewN | apply below_drew1) | exact HB.out)) hb); clear HB; have HB := n0_; clear n0_; (try clear hb); (try clear hb2); (try clear hk); (try clear hi)) | (go_at_call 12; (with_reducible refine (stem_Stem.calls k (⟨#[99, 97, 114, 101, 115, 115, 101, 115]⟩ : ByteArray) t179 _ A5.out).mono ?_); rintro e w12 ⟨rfl, hb⟩; have n0_ := Aside0.mk (below_step (by repeat (first | (with_reducible first | exact HB.out | apply below_alloc | apply pw_below_drewN | apply below_drew1) | exact HB.out)) hb); clear HB; have HB := n0_; clear n0_; (try clear hb); (try clear hb2); (try clear hk); (try clear hi)) | (go_at_call 12; (with_reducible refine (stem_Stem.calls k (⟨#[115, 107, 121]⟩ : ByteArray) t180 _ A7.out).mono ?_); rintro e w13 ⟨rfl, hb⟩; have n0_ := Aside0.mk (below_step (by repeat (first | (with_reducible first | exact HB.out | apply below_alloc | apply pw_below_drewN | apply below_drew1) | exact HB.out)) hb); clear HB; have HB := n0_; clear n0_; (try clear hb); (try clear hb2); (try clear hk); (try clear hi)) | (go_at_call 12; (with_reducible refine (stem_Stem.calls k (⟨#[104, 97, 112, 112, 121]⟩ : ByteArray) t181 _ A9.out).mono ?_); rintro e w14 ⟨rfl, hb⟩; have n0_ := Aside0.mk (below_step (by repeat (first | (with_reducible first | exact HB.out | apply below_alloc | apply pw_below_drewN | apply below_drew1) | exact HB.out)) hb); clear HB; have HB := n0_; clear n0_; (try clear hb); (try clear hb2); (try clear hk); (try clear hi)))
          go_ret
          exact ⟨by first | rfl | (simp [errW_none, errW_some] <;> rfl) | (simp [*, errW_none, errW_some] <;> rfl), by repeat (first | (with_reducible first | exact HB.out | apply below_alloc | apply pw_below_drewN | apply below_drew1) | exact HB.out)⟩
        · rw [if_neg c8] at H
          have c8b0 : (t180.toList == ([115, 107, 121] : List UInt8)) = false := beq_eq_false_iff_ne.mpr c8
          have c8b1 : (t180.toList != ([115, 107, 121] : List UInt8)) = true := bne_iff_ne.mpr c8
          obtain rfl := Option.some.inj H
          go_enter Try.func11, Try.ntmps11
          go_wp2_with (first | ((with_reducible refine gate_callee (f := 12) rfl ?_); refine goesL_ (some 1) rfl rfl Try.func12 (by kernel_rfl) rfl #[.string (⟨#[114, 101, 108, 97, 116, 105, 111, 110, 97, 108]⟩ : ByteArray)] rfl (by (try simp only [List.map_toArray, List.map_cons, List.map_nil]); first | done | rfl | (simp only [List.length_drop, List.length_take]; rfl)) ?_; (with_reducible refine (stem_Stem.calls k (⟨#[114, 101, 108, 97, 116, 105, 111, 110, 97, 108]⟩ : ByteArray) t177 _ A1.out).mono ?_); rintro e w15 ⟨rfl, hb⟩; refine ⟨_, rfl, ?_⟩; have n0_ := Aside0.mk (below_step (by repeat (first | (with_reducible first | exact HB.out | apply below_alloc | apply pw_below_drewN | apply below_drew1) | exact HB.out)) hb); clear HB; have HB := n0_; clear n0_; (try clear hb); (try clear hb2); (try clear hk); (try clear hi)) | (go_at_call 12; (with_reducible refine (stem_Stem.calls k (⟨#[104, 111, 112, 112, 105, 110, 103]⟩ : ByteArray) t178 _ A3.out).mono ?_); rintro e w16 ⟨rfl, hb⟩; have n0_ := Aside0.mk (below_step (by repeat (first | (with_reducible first | exact HB.out | apply below_alloc | apply pw_below_drewN | apply below_drew1) | exact HB.out)) hb); clear HB; have HB := n0_; clear n0_; (try clear hb); (try clear hb2); (try clear hk); (try clear hi)) | (go_at_call 12; (with_reducible refine (stem_Stem.calls k (⟨#[99, 97, 114, 101, 115, 115, 101, 115]⟩ : ByteArray) t179 _ A5.out).mono ?_); rintro e w17 ⟨rfl, hb⟩; have n0_ := Aside0.mk (below_step (by repeat (first | (with_reducible first | exact HB.out | apply below_alloc | apply pw_below_drewN | apply below_drew1) | exact HB.out)) hb); clear HB; have HB := n0_; clear n0_; (try clear hb); (try clear hb2); (try clear hk); (try clear hi)) | (go_at_call 12; (with_reducible refine (stem_Stem.calls k (⟨#[115, 107, 121]⟩ : ByteArray) t180 _ A7.out).mono ?_); rintro e w18 ⟨rfl, hb⟩; have n0_ := Aside0.mk (below_step (by repeat (first | (with_reducible first | exact HB.out | apply below_alloc | apply pw_below_drewN | apply below_drew1) | exact HB.out)) hb); clear HB; have HB := n0_; clear n0_; (try clear hb); (try clear hb2); (try clear hk); (try clear hi)))
          go_ret
          exact ⟨by first | rfl | (simp [errW_none, errW_some] <;> rfl) | (simp [*, errW_none, errW_some] <;> rfl), by repeat (first | (with_reducible first | exact HB.out | apply below_alloc | apply pw_below_drewN | apply below_drew1) | exact HB.out)⟩
      · rw [if_neg c6] at H
        have c6b0 : (t179.toList == ([99, 97, 114, 101, 115, 115] : List UInt8)) = false := beq_eq_false_iff_ne.mpr c6
        have c6b1 : (t179.toList != ([99, 97, 114, 101, 115, 115] : List UInt8)) = true := bne_iff_ne.mpr c6
        obtain rfl := Option.some.inj H
        go_enter Try.func11, Try.ntmps11
        go_wp2_with (first | ((with_reducible refine gate_callee (f := 12) rfl ?_); refine goesL_ (some 1) rfl rfl Try.func12 (by kernel_rfl) rfl #[.string (⟨#[114, 101, 108, 97, 116, 105, 111, 110, 97, 108]⟩ : ByteArray)] rfl (by (try simp only [List.map_toArray, List.map_cons, List.map_nil]); first | done | rfl | (simp only [List.length_drop, List.length_take]; rfl)) ?_; (with_reducible refine (stem_Stem.calls k (⟨#[114, 101, 108, 97, 116, 105, 111, 110, 97, 108]⟩ : ByteArray) t177 _ A1.out).mono ?_); rintro e w19 ⟨rfl, hb⟩; refine ⟨_, rfl, ?_⟩; have n0_ := Aside0.mk (below_step (by repeat (first | (with_reducible first | exact HB.out | apply below_alloc | apply pw_below_drewN | apply below_drew1) | exact HB.out)) hb); clear HB; have HB := n0_; clear n0_; (try clear hb); (try clear hb2); (try clear hk); (try clear hi)) | (go_at_call 12; (with_reducible refine (stem_Stem.calls k (⟨#[104, 111, 112, 112, 105, 110, 103]⟩ : ByteArray) t178 _ A3.out).mono ?_); rintro e w20 ⟨rfl, hb⟩; have n0_ := Aside0.mk (below_step (by repeat (first | (with_reducible first | exact HB.out | apply below_alloc | apply pw_below_drewN | apply below_drew1) | exact HB.out)) hb); clear HB; have HB := n0_; clear n0_; (try clear hb); (try clear hb2); (try clear hk); (try clear hi)) | (go_at_call 12; (with_reducible refine (stem_Stem.calls k (⟨#[99, 97, 114, 101, 115, 115, 101, 115]⟩ : ByteArray) t179 _ A5.out).mono ?_); rintro e w21 ⟨rfl, hb⟩; have n0_ := Aside0.mk (below_step (by repeat (first | (with_reducible first | exact HB.out | apply below_alloc | apply pw_below_drewN | apply below_drew1) | exact HB.out)) hb); clear HB; have HB := n0_; clear n0_; (try clear hb); (try clear hb2); (try clear hk); (try clear hi)))
        go_ret
        exact ⟨by first | rfl | (simp [errW_none, errW_some] <;> rfl) | (simp [*, errW_none, errW_some] <;> rfl), by repeat (first | (with_reducible first | exact HB.out | apply below_alloc | apply pw_below_drewN | apply below_drew1) | exact HB.out)⟩
    · rw [if_neg c4] at H
      have c4b0 : (t178.toList == ([104, 111, 112] : List UInt8)) = false := beq_eq_false_iff_ne.mpr c4
      have c4b1 : (t178.toList != ([104, 111, 112] : List UInt8)) = true := bne_iff_ne.mpr c4
      obtain rfl := Option.some.inj H
      go_enter Try.func11, Try.ntmps11
      go_wp2_with (first | ((with_reducible refine gate_callee (f := 12) rfl ?_); refine goesL_ (some 1) rfl rfl Try.func12 (by kernel_rfl) rfl #[.string (⟨#[114, 101, 108, 97, 116, 105, 111, 110, 97, 108]⟩ : ByteArray)] rfl (by (try simp only [List.map_toArray, List.map_cons, List.map_nil]); first | done | rfl | (simp only [List.length_drop, List.length_take]; rfl)) ?_; (with_reducible refine (stem_Stem.calls k (⟨#[114, 101, 108, 97, 116, 105, 111, 110, 97, 108]⟩ : ByteArray) t177 _ A1.out).mono ?_); rintro e w22 ⟨rfl, hb⟩; refine ⟨_, rfl, ?_⟩; have n0_ := Aside0.mk (below_step (by repeat (first | (with_reducible first | exact HB.out | apply below_alloc | apply pw_below_drewN | apply below_drew1) | exact HB.out)) hb); clear HB; have HB := n0_; clear n0_; (try clear hb); (try clear hb2); (try clear hk); (try clear hi)) | (go_at_call 12; (with_reducible refine (stem_Stem.calls k (⟨#[104, 111, 112, 112, 105, 110, 103]⟩ : ByteArray) t178 _ A3.out).mono ?_); rintro e w23 ⟨rfl, hb⟩; have n0_ := Aside0.mk (below_step (by repeat (first | (with_reducible first | exact HB.out | apply below_alloc | apply pw_below_drewN | apply below_drew1) | exact HB.out)) hb); clear HB; have HB := n0_; clear n0_; (try clear hb); (try clear hb2); (try clear hk); (try clear hi)))
      go_ret
      exact ⟨by first | rfl | (simp [errW_none, errW_some] <;> rfl) | (simp [*, errW_none, errW_some] <;> rfl), by repeat (first | (with_reducible first | exact HB.out | apply below_alloc | apply pw_below_drewN | apply below_drew1) | exact HB.out)⟩
  · rw [if_neg c2] at H
    have c2b0 : (t177.toList == ([114, 101, 108, 97, 116] : List UInt8)) = false := beq_eq_false_iff_ne.mpr c2
    have c2b1 : (t177.toList != ([114, 101, 108, 97, 116] : List UInt8)) = true := bne_iff_ne.mpr c2
    obtain rfl := Option.some.inj H
    go_enter Try.func11, Try.ntmps11
    go_wp2_with (first | ((with_reducible refine gate_callee (f := 12) rfl ?_); refine goesL_ (some 1) rfl rfl Try.func12 (by kernel_rfl) rfl #[.string (⟨#[114, 101, 108, 97, 116, 105, 111, 110, 97, 108]⟩ : ByteArray)] rfl (by (try simp only [List.map_toArray, List.map_cons, List.map_nil]); first | done | rfl | (simp only [List.length_drop, List.length_take]; rfl)) ?_; (with_reducible refine (stem_Stem.calls k (⟨#[114, 101, 108, 97, 116, 105, 111, 110, 97, 108]⟩ : ByteArray) t177 _ A1.out).mono ?_); rintro e w24 ⟨rfl, hb⟩; refine ⟨_, rfl, ?_⟩; have n0_ := Aside0.mk (below_step (by repeat (first | (with_reducible first | exact HB.out | apply below_alloc | apply pw_below_drewN | apply below_drew1) | exact HB.out)) hb); clear HB; have HB := n0_; clear n0_; (try clear hb); (try clear hb2); (try clear hk); (try clear hi)))
    go_ret
    exact ⟨by first | rfl | (simp [errW_none, errW_some] <;> rfl) | (simp [*, errW_none, errW_some] <;> rfl), by repeat (first | (with_reducible first | exact HB.out | apply below_alloc | apply pw_below_drewN | apply below_drew1) | exact HB.out)⟩

/-! ### catchwordlaw03_plain: function 13 -/
def catchwordlaw03_plain.l0 : Nat → ByteArray → Int → Option (Bool)
  | 0, _, _ => none
  | k + 1, x0, x3 => if x3 < (x0.size : Int) then (if 0 ≤ x3 then (if (bt x0 x3) < 97 then (some false) else (if (bt x0 x3) > 122 then (some false) else (catchwordlaw03_plain.l0 k x0 (wrap64 (x3 + 1))))) else (none)) else (some (decide ((x0.size : Int) ≥ 3)))
def catchwordlaw03_plain.f (k : Nat) (a0 : ByteArray) : Option (Bool) := catchwordlaw03_plain.l0 k a0 0
theorem catchwordlaw03_plain.mono_l : ∀ k, (∀ y0 y1, LeO (catchwordlaw03_plain.l0 k y0 y1) (catchwordlaw03_plain.l0 (k + 1) y0 y1))
  | 0 => fun _ _ r h => by simp [catchwordlaw03_plain.l0] at h
  | k + 1 => by
    have ih0 := catchwordlaw03_plain.mono_l k
    · intro y0 y1
      unfold catchwordlaw03_plain.l0
      repeat' first
      | (with_reducible exact ih0 _ _)
      | (with_reducible exact LeO.refl _)
      | (with_reducible exact LeO.none _)
      | (with_reducible refine LeO.ite ?_ ?_)
      | (with_reducible refine LeO.bind ?_ (fun _ => ?_))
      | exact ih0 _ _
      | exact LeO.none _
      | refine LeO.ite ?_ ?_
      | refine LeO.bind ?_ (fun _ => ?_)
theorem catchwordlaw03_plain.mono : ∀ a0 k, LeO (catchwordlaw03_plain.f k a0) (catchwordlaw03_plain.f (k + 1) a0) := by
  intro a0 k
  have ih0 := catchwordlaw03_plain.mono_l k
  unfold catchwordlaw03_plain.f
  repeat' first
      | (with_reducible exact ih0 _ _)
      | (with_reducible exact LeO.refl _)
      | (with_reducible exact LeO.none _)
      | (with_reducible refine LeO.ite ?_ ?_)
      | (with_reducible refine LeO.bind ?_ (fun _ => ?_))
      | exact ih0 _ _
      | exact LeO.none _
      | refine LeO.ite ?_ ?_
      | refine LeO.bind ?_ (fun _ => ?_)
set_option maxHeartbeats 8000000 in
set_option maxRecDepth 100000 in
theorem catchwordlaw03_plain.calls (k : Nat) (a0 : ByteArray) (r : Bool) (w : World) (h : catchwordlaw03_plain.f k a0 = some r) :
    Calls Try.prog 13 #[.string a0] w fun e w' => e = .returned (.bool r) ∧ Drawn0 w w' := by
  have H : (catchwordlaw03_plain.l0 k a0 0) = some r := h
  clear h
  have H' := Aside0.mk H
  clear H
  go_enter Try.func13, Try.ntmps13
  go_wp2
  go_loopg [3] k (fun kq v3 w' => ∃ (x3_1 : Int), v3 = .int .i64 x3_1 ∧ Aside0 (catchwordlaw03_plain.l0 kq a0 x3_1 = some r) ∧ Aside0 (kq ≤ k) ∧ Drawn0 w w')
  case atStart => exact ⟨(0), (by first | rfl | (simp; done) | (simp [*]; done)), H', ⟨Nat.le_refl _⟩, by repeat (first | exact Drawn0.refl _ | apply Drawn0.step)⟩
  case round =>
    clear H'
    try clear c1
    obtain ⟨x3_1, rfl, HA, HK1, ⟨m1, rfl⟩⟩ := hrel
    cases gk with
    | zero => exact absurd HA.out (by simp [catchwordlaw03_plain.l0])
    | succ k1 =>
      have H := HA.out
      clear HA
      simp only [catchwordlaw03_plain.l0] at H
      by_cases c2 : x3_1 < (a0.size : Int)
      · rw [if_pos c2] at H
        have c2b0 : decide (x3_1 < (a0.size : Int)) = true := decide_eq_true c2
        clear c2
        by_cases c3 : 0 ≤ x3_1
        · rw [if_pos c3] at H
          have c3b0 : decide (0 ≤ x3_1) = true := decide_eq_true c3
          clear c3
          by_cases c5 : (bt a0 x3_1) < 97
          · rw [if_pos c5] at H
            have c5b0 : decide ((bt a0 x3_1) < 97) = true := decide_eq_true c5
            clear c5
            obtain rfl := Option.some.inj H
            have p4 : 0 ≤ (x3_1 : Int) := of_decide_eq_true (by first | (with_reducible assumption) | assumption)
            have q4 : x3_1 < (a0.size : Int) := of_decide_eq_true (by first | (with_reducible assumption) | assumption)
            have hx4 := bt_at a0 x3_1
            replace p4 := eq_true p4
            replace q4 := eq_true q4
            go_wp2
            go_ret
            exact ⟨by first | rfl | (simp; done) | (simp [*]; done), by repeat (first | exact Drawn0.refl _ | apply Drawn0.step)⟩
          · rw [if_neg c5] at H
            have c5b0 : decide ((bt a0 x3_1) < 97) = false := decide_eq_false c5
            clear c5
            by_cases c7 : (bt a0 x3_1) > 122
            · rw [if_pos c7] at H
              have c7b0 : decide (122 < (bt a0 x3_1)) = true := decide_eq_true c7
              clear c7
              obtain rfl := Option.some.inj H
              have p4 : 0 ≤ (x3_1 : Int) := of_decide_eq_true (by first | (with_reducible assumption) | assumption)
              have q4 : x3_1 < (a0.size : Int) := of_decide_eq_true (by first | (with_reducible assumption) | assumption)
              have hx4 := bt_at a0 x3_1
              replace p4 := eq_true p4
              replace q4 := eq_true q4
              have p6 : 0 ≤ (x3_1 : Int) := of_decide_eq_true (by first | (with_reducible assumption) | assumption)
              have q6 : x3_1 < (a0.size : Int) := of_decide_eq_true (by first | (with_reducible assumption) | assumption)
              have hx6 := bt_at a0 x3_1
              replace p6 := eq_true p6
              replace q6 := eq_true q6
              go_wp2
              go_ret
              exact ⟨by first | rfl | (simp; done) | (simp [*]; done), by repeat (first | exact Drawn0.refl _ | apply Drawn0.step)⟩
            · rw [if_neg c7] at H
              have c7b0 : decide (122 < (bt a0 x3_1)) = false := decide_eq_false c7
              clear c7
              have H' := Aside0.mk H
              clear H
              have p4 : 0 ≤ (x3_1 : Int) := of_decide_eq_true (by first | (with_reducible assumption) | assumption)
              have q4 : x3_1 < (a0.size : Int) := of_decide_eq_true (by first | (with_reducible assumption) | assumption)
              have hx4 := bt_at a0 x3_1
              replace p4 := eq_true p4
              replace q4 := eq_true q4
              have p6 : 0 ≤ (x3_1 : Int) := of_decide_eq_true (by first | (with_reducible assumption) | assumption)
              have q6 : x3_1 < (a0.size : Int) := of_decide_eq_true (by first | (with_reducible assumption) | assumption)
              have hx6 := bt_at a0 x3_1
              replace p6 := eq_true p6
              replace q6 := eq_true q6
              go_wp2
              go_roundg k1
              case measure => have := HK1.out; omega
              case rel => exact ⟨(wrap64 (x3_1 + 1)), (by first | rfl | (simp; done) | (simp [*]; done)), H', ⟨by have := HK1.out; omega⟩, by repeat (first | exact Drawn0.refl _ | apply Drawn0.step)⟩
        · rw [if_neg c3] at H
          exact absurd H (by simp)
      · rw [if_neg c2] at H
        have c2b0 : decide (x3_1 < (a0.size : Int)) = false := decide_eq_false c2
        clear c2
        obtain rfl := Option.some.inj H
        go_wp2
        go_ret
        exact ⟨by first | rfl | (simp; done) | (simp [*]; done), by repeat (first | exact Drawn0.refl _ | apply Drawn0.step)⟩

end Go.Proofs.Ytnemoodjbekngaa.PStem
