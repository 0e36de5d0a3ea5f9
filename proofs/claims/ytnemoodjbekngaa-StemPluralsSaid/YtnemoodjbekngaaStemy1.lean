/-
  What each step of the stem comes to. Conditions: texts of at most 2^47 bytes.
-/
import Derived.Test.YtnemoodjbekngaaStemy0
namespace Go.Proofs.Ytnemoodjbekngaa.Pure
namespace StemAid
open Go.RowKit Go.Proofs.Ytnemoodjbekngaa.PStem Go.Proofs.YtnemoodjbekngaaW.PrintWords Go.Proofs.YtnemoodjbekngaaW.PrintLast
/-- Does a text end so? -/
def hasSuf (a b : ByteArray) : Bool := decide (b.size ≤ a.size) && ((lst a).drop (a.size - b.size) == lst b)
theorem hs_f (a b : ByteArray) (hs : a.size ≤ 140737488351232) : stringslite_HasSuffix.f a b = some (hasSuf a b) := by
  unfold stringslite_HasSuffix.f hasSuf
  by_cases h : b.size ≤ a.size
  · have hw : wrap64 ((a.size : Int) - (b.size : Int)) = ((a.size - b.size : Nat) : Int) := by rw [wrap_id (by omega) (by omega)]; omega
    rw [if_pos (by omega), hw, if_pos (by omega), if_pos (by omega)]
    simp [Lib.toList_data, lst, h]
    rw [List.take_of_length_le (by rw [List.length_drop]; exact Nat.le_refl _)]
  · rw [if_neg (by omega)]; simp [h]
theorem hs_g (a b : ByteArray) (hs : a.size ≤ 140737488351232) : strings_HasSuffix.f a b = some (hasSuf a b) := by
  unfold strings_HasSuffix.f; rw [hs_f a b hs]; rfl
theorem cut_f (a b : ByteArray) (hs : a.size ≤ 140737488351232) :
    strings_CutSuffix.f a b = some (if hasSuf a b = true then (a.extract 0 (a.size - b.size), true) else (a, false)) := by
  unfold strings_CutSuffix.f stringslite_CutSuffix.f
  rw [hs_f a b hs]
  simp only [Option.bind_some]
  by_cases h : hasSuf a b = true
  · have hb : b.size ≤ a.size := by unfold hasSuf at h; simp at h; exact h.1
    have hw : wrap64 ((a.size : Int) - (b.size : Int)) = ((a.size - b.size : Nat) : Int) := by rw [wrap_id (by omega) (by omega)]; omega
    rw [if_pos h, if_pos h, hw, if_pos (by omega), if_pos (by omega)]
    simp
  · rw [if_neg h, if_neg h]; simp
theorem suf_le {a b : ByteArray} (h : hasSuf a b = true) : b.size ≤ a.size := by unfold hasSuf at h; simp at h; exact h.1
theorem ext_size (a : ByteArray) (n : Nat) (h : n ≤ a.size) : (a.extract 0 n).size = n := by simp [ByteArray.size_extract]; omega
/-- Small letters alone. -/
def Low (s : ByteArray) : Prop := ∀ b ∈ lst s, 97 ≤ b.toNat ∧ b.toNat ≤ 122
/-- Not longer, not empty, small letters, the same first one. -/
def Good (w s : ByteArray) : Prop := Low s ∧ 0 < s.size ∧ s.size ≤ w.size ∧ (lst s)[0]? = (lst w)[0]?
theorem Good.refl {w : ByteArray} (h : Low w) (h0 : 0 < w.size) : Good w w := ⟨h, h0, Nat.le_refl _, rfl⟩
theorem Good.trans {a b c : ByteArray} (h : Good a b) (k : Good b c) : Good a c := ⟨k.1, k.2.1, Nat.le_trans k.2.2.1 h.2.2.1, k.2.2.2.trans h.2.2.2⟩
theorem Good.cut {w t : ByteArray} {j : Nat} (h : Low w) (h0 : 0 < j) (h1 : j ≤ w.size) (ht : Low t) (h2 : t.size + j ≤ w.size) : Good w (w.extract 0 j ++ t) := by
  refine ⟨?_, ?_, ?_, ?_⟩
  · intro b hb
    rw [lst_app, lst_take] at hb
    rcases List.mem_append.1 hb with hb | hb
    · exact h b (List.mem_of_mem_take hb)
    · exact ht b hb
  · rw [ByteArray.size_append, ext_size w j h1]; omega
  · rw [ByteArray.size_append, ext_size w j h1]; omega
  · rw [lst_app, lst_take, List.getElem?_append_left (by rw [List.length_take, lst_len]; omega), List.getElem?_take_of_lt h0]
theorem app_empty (a : ByteArray) : a ++ (⟨#[]⟩ : ByteArray) = a := lst_inj (by rw [lst_app]; simp [lst])
theorem low_empty : Low (⟨#[]⟩ : ByteArray) := by intro b hb; simp [lst] at hb
theorem Good.take {w : ByteArray} {j : Nat} (h : Low w) (h0 : 0 < j) (h1 : j ≤ w.size) : Good w (w.extract 0 j) := by
  have := Good.cut (t := ⟨#[]⟩) h h0 h1 low_empty (show 0 + j ≤ w.size by omega)
  rwa [app_empty] at this
theorem low_lit (l : List UInt8) (h : (l.all fun b => decide (97 ≤ b.toNat) && decide (b.toNat ≤ 122)) = true) : Low ⟨l.toArray⟩ := by
  intro b hb
  have : b ∈ l := by simpa [lst] using hb
  have := List.all_eq_true.1 h b this
  simpa using this
theorem has_ev (w : ByteArray) (hs : w.size ≤ 140737488351232) : ∃ b : Bool, Ev (fun k => stem_has.f k w) b ∧ (b = true → 0 < w.size) := by
  suffices H : ∀ d i : Nat, i ≤ w.size → w.size - i = d → ∃ b : Bool, Ev (fun k => stem_has.l0 k w (w.size : Int) (i : Int)) b ∧ (b = true → 0 < w.size) from H w.size 0 (by omega) (by omega)
  intro d
  induction d with
  | zero =>
    intro i hi hd
    refine ⟨false, ⟨1, fun k hk => ?_⟩, by simp⟩
    obtain ⟨k, rfl⟩ : ∃ m, k = m + 1 := ⟨k - 1, by omega⟩
    simp only [stem_has.l0]
    rw [if_neg (by omega)]
  | succ d ih =>
    intro i hi hd
    obtain ⟨b, ⟨K1, hb⟩, hp⟩ := ih (i + 1) (by omega) (by omega)
    obtain ⟨K2, hv⟩ := vowel_ev w hs i (by omega)
    have hw : wrap64 ((i : Int) + 1) = ((i + 1 : Nat) : Int) := by rw [wrap_id (by omega) (by omega)]; omega
    by_cases h : vow w i = true
    · refine ⟨true, ⟨K2 + 1, fun k hk => ?_⟩, fun _ => by omega⟩
      obtain ⟨k, rfl⟩ : ∃ m, k = m + 1 := ⟨k - 1, by omega⟩
      have hv := hv k (by omega)
      simp only [] at hv
      simp only [stem_has.l0]
      rw [if_pos (by omega), hv]; simp [h]
    · refine ⟨b, ⟨K1 + K2 + 1, fun k hk => ?_⟩, hp⟩
      obtain ⟨k, rfl⟩ : ∃ m, k = m + 1 := ⟨k - 1, by omega⟩
      have hv := hv k (by omega)
      have hb := hb k (by omega)
      simp only [] at hv hb
      simp only [stem_has.l0]
      rw [if_pos (by omega), hv]; simp only [Option.bind_some, if_neg h]; rw [hw]; exact hb
theorem double_ev (w : ByteArray) (hs : w.size ≤ 140737488351232) : ∃ b : Bool, Ev (fun k => stem_double.f k w) b ∧ (b = true → 1 < w.size) := by
  unfold stem_double.f
  by_cases h : 1 < w.size
  · have h1 : wrap64 ((w.size : Int) - 1) = ((w.size - 1 : Nat) : Int) := by rw [wrap_id (by omega) (by omega)]; omega
    have h2 : wrap64 ((w.size : Int) - 2) = ((w.size - 2 : Nat) : Int) := by rw [wrap_id (by omega) (by omega)]; omega
    obtain ⟨K, hv⟩ := vowel_ev w hs (w.size - 1) (by omega)
    by_cases he : bt w ((w.size - 1 : Nat) : Int) = bt w ((w.size - 2 : Nat) : Int)
    · refine ⟨!vow w (w.size - 1), ⟨K, fun k hk => ?_⟩, fun _ => h⟩
      have hv := hv k hk
      simp only [] at hv
      simp only []
      rw [if_pos (by omega), h1, h2, if_pos (by omega), if_pos (by omega), if_pos (by omega), if_pos (by omega), if_pos he, hv]; rfl
    · refine ⟨false, ⟨0, fun k hk => ?_⟩, by simp⟩
      simp only []
      rw [if_pos (by omega), h1, h2, if_pos (by omega), if_pos (by omega), if_pos (by omega), if_pos (by omega), if_neg he]
  · refine ⟨false, ⟨0, fun k hk => ?_⟩, by simp⟩
    simp only []
    rw [if_neg (by omega)]
theorem short_ev (w : ByteArray) (hs : w.size ≤ 140737488351232) : ∃ b : Bool, Ev (fun k => stem_short.f k w) b := by
  unfold stem_short.f
  by_cases h : 2 < w.size
  · have h1 : wrap64 ((w.size : Int) - 1) = ((w.size - 1 : Nat) : Int) := by rw [wrap_id (by omega) (by omega)]; omega
    have h2 : wrap64 ((w.size : Int) - 2) = ((w.size - 2 : Nat) : Int) := by rw [wrap_id (by omega) (by omega)]; omega
    have h3 : wrap64 ((w.size : Int) - 3) = ((w.size - 3 : Nat) : Int) := by rw [wrap_id (by omega) (by omega)]; omega
    obtain ⟨K1, v1⟩ := vowel_ev w hs (w.size - 1) (by omega)
    obtain ⟨K2, v2⟩ := vowel_ev w hs (w.size - 2) (by omega)
    obtain ⟨K3, v3⟩ := vowel_ev w hs (w.size - 3) (by omega)
    generalize hb : (if vow w (w.size - 3) = true then false else if vow w (w.size - 2) = true then (if vow w (w.size - 1) = true then false else if bt w ((w.size - 1 : Nat) : Int) = 119 then false else if bt w ((w.size - 1 : Nat) : Int) = 120 then false else bt w ((w.size - 1 : Nat) : Int) != 121) else false) = b
    refine ⟨b, ⟨K1 + K2 + K3, fun k hk => ?_⟩⟩
    have v1 := v1 k (by omega)
    have v2 := v2 k (by omega)
    have v3 := v3 k (by omega)
    simp only [] at v1 v2 v3
    simp only []
    rw [if_pos (by omega), h1, h2, h3, v1, v2, v3]
    simp only [Option.bind_some]
    rw [if_pos (show (0 : Int) ≤ ((w.size - 1 : Nat) : Int) by omega), if_pos (show ((w.size - 1 : Nat) : Int) < (w.size : Int) by omega), ← hb]
    generalize vow w (w.size - 3) = a3
    generalize vow w (w.size - 2) = a2
    generalize vow w (w.size - 1) = a1
    generalize bt w ((w.size - 1 : Nat) : Int) = c
    by_cases e1 : c = 119 <;> by_cases e2 : c = 120 <;> cases a3 <;> cases a2 <;> cases a1 <;> simp [e1, e2]
  · refine ⟨false, ⟨0, fun k hk => ?_⟩⟩
    simp only []
    rw [if_neg (by omega)]
theorem meas_pos {s : ByteArray} (h : 0 < measTo s s.size) : 1 < s.size := by
  have := measTo_le s s.size; omega
/-- What each word comes to. -/
theorem plural_ev (w : ByteArray) (hs : w.size ≤ 140737488351232) (hl : Low w) (h3 : 3 ≤ w.size) : ∃ r, Ev (fun k => stem_plural.f k w) r ∧ Good w r := by
  have h1 : wrap64 ((w.size : Int) - 1) = ((w.size - 1 : Nat) : Int) := by rw [wrap_id (by omega) (by omega)]; omega
  have h2 : wrap64 ((w.size : Int) - 2) = ((w.size - 2 : Nat) : Int) := by rw [wrap_id (by omega) (by omega)]; omega
  have key : ∀ b : Bool, ∃ r, Ev (fun k => stem_plural.j0 k w b) r ∧ Good w r := by
    intro b
    cases b with
    | true =>
      refine ⟨w.extract 0 (w.size - 2), ⟨1, fun k hk => ?_⟩, Good.take hl (by omega) (by omega)⟩
      obtain ⟨k, rfl⟩ : ∃ m, k = m + 1 := ⟨k - 1, by omega⟩
      simp only [stem_plural.j0, h2]
      rw [if_pos trivial, if_pos (by omega), if_pos (by omega)]; rfl
    | false =>
      by_cases hc : hasSuf w ⟨#[115]⟩ = true ∧ hasSuf w ⟨#[115, 115]⟩ = false
      · refine ⟨w.extract 0 (w.size - 1), ⟨1, fun k hk => ?_⟩, Good.take hl (by omega) (by omega)⟩
        obtain ⟨k, rfl⟩ : ∃ m, k = m + 1 := ⟨k - 1, by omega⟩
        simp only [stem_plural.j0, h1, hs_g w _ hs, Option.bind_some, hc.1, hc.2]
        simp only [if_true, Bool.false_eq_true, if_false]
        rw [if_pos (by omega), if_pos (by omega)]; rfl
      · refine ⟨w, ⟨1, fun k hk => ?_⟩, Good.refl hl (by omega)⟩
        obtain ⟨k, rfl⟩ : ∃ m, k = m + 1 := ⟨k - 1, by omega⟩
        simp only [stem_plural.j0, hs_g w _ hs, Option.bind_some]
        by_cases ha : hasSuf w ⟨#[115]⟩ = true <;> by_cases hb : hasSuf w ⟨#[115, 115]⟩ = true <;> simp_all
  unfold stem_plural.f
  simp only [hs_g w _ hs, Option.bind_some]
  by_cases ha : hasSuf w ⟨#[115, 115, 101, 115]⟩ = true
  · simp only [if_pos ha]; exact key _
  · simp only [if_neg ha]; exact key _
theorem app_fit (s : ByteArray) (n : Nat) (hs : s.size ≤ 140737488351232) (hn : n ≤ 100) : s.size + n ≤ 9223372036854775807 := by omega
theorem past_ev (w : ByteArray) (hs : w.size ≤ 140737488351232) (hl : Low w) (h0 : 0 < w.size) : ∃ r, Ev (fun k => stem_past.f k w) r ∧ Good w r := by
  have key0 : ∀ j b, j + 2 ≤ w.size ∨ b = false → j ≤ w.size → ∃ r, Ev (fun k => stem_past.j0 k w (w.extract 0 j) b) r ∧ Good w r := by
    intro j b hj hjw
    cases b with
    | false =>
      refine ⟨w, ⟨2, fun k hk => ?_⟩, Good.refl hl h0⟩
      obtain ⟨k, rfl⟩ : ∃ m, k = m + 2 := ⟨k - 2, by omega⟩
      simp only [stem_past.j0, stem_past.j1]; simp
    | true =>
      have hj : j + 2 ≤ w.size := by simpa using hj
      have hsz := ext_size w j hjw
      have hs' : (w.extract 0 j).size ≤ 140737488351232 := by omega
      obtain ⟨b, ⟨K1, hb⟩, hp⟩ := has_ev (w.extract 0 j) hs'
      cases b with
      | false =>
        refine ⟨w, ⟨K1 + 2, fun k hk => ?_⟩, Good.refl hl h0⟩
        obtain ⟨k, rfl⟩ : ∃ m, k = m + 2 := ⟨k - 2, by omega⟩
        have hb := hb (k + 1) (by omega)
        simp only [] at hb
        simp only [stem_past.j0, hb]; simp [stem_past.j1]
      | true =>
        have hj0 : 0 < j := by have := hp rfl; omega
        have ge : Good w (w.extract 0 j ++ (⟨#[101]⟩ : ByteArray)) := Good.cut hl hj0 hjw (low_lit [101] (by decide)) (by show 1 + j ≤ _; omega)
        have key2 : ∀ c : Bool, ∃ r, Ev (fun k => stem_past.j2 k (w.extract 0 j) c) r ∧ Good w r := by
          intro c
          cases c with
          | true =>
            refine ⟨_, ⟨1, fun k hk => ?_⟩, ge⟩
            obtain ⟨k, rfl⟩ : ∃ m, k = m + 1 := ⟨k - 1, by omega⟩
            simp only [stem_past.j2]
            rw [if_pos trivial, if_pos (app_fit _ 1 hs' (by omega))]
          | false =>
            have h1 : wrap64 (((w.extract 0 j).size : Int) - 1) = ((j - 1 : Nat) : Int) := by rw [hsz, wrap_id (by omega) (by omega)]; omega
            have key3 : ∀ d : Bool, (d = true → 1 < j) → ∃ r, Ev (fun k => stem_past.j3 k (w.extract 0 j) d) r ∧ Good w r := by
              intro d hd
              cases d with
              | true =>
                have hj1 := hd rfl
                refine ⟨(w.extract 0 j).extract 0 (j - 1), ⟨1, fun k hk => ?_⟩, (Good.take hl hj0 hjw).trans (Good.take (Good.take hl hj0 hjw).1 (by omega) (by omega))⟩
                obtain ⟨k, rfl⟩ : ∃ m, k = m + 1 := ⟨k - 1, by omega⟩
                simp only [stem_past.j3, h1]
                rw [if_pos trivial, if_pos (by omega), if_pos (by omega)]; rfl
              | false =>
                obtain ⟨K2, hm⟩ := meas_ev (w.extract 0 j) hs'
                obtain ⟨b2, K3, hb2⟩ := short_ev (w.extract 0 j) hs'
                by_cases hc : measTo (w.extract 0 j) (w.extract 0 j).size = 1 ∧ b2 = true
                · refine ⟨_, ⟨K2 + K3 + 1, fun k hk => ?_⟩, ge⟩
                  obtain ⟨k, rfl⟩ : ∃ m, k = m + 1 := ⟨k - 1, by omega⟩
                  have hm := hm k (by omega)
                  have hb2 := hb2 k (by omega)
                  simp only [] at hm hb2
                  simp only [stem_past.j3, hm, hb2, Option.bind_some, hc.1, hc.2]
                  simp only [Bool.false_eq_true, if_false]
                  rw [if_pos (by rfl), if_pos trivial, if_pos (app_fit _ 1 hs' (by omega))]
                · refine ⟨_, ⟨K2 + K3 + 1, fun k hk => ?_⟩, Good.take hl hj0 hjw⟩
                  obtain ⟨k, rfl⟩ : ∃ m, k = m + 1 := ⟨k - 1, by omega⟩
                  have hm := hm k (by omega)
                  have hb2 := hb2 k (by omega)
                  simp only [] at hm hb2
                  simp only [stem_past.j3, hm, hb2, Option.bind_some]
                  simp only [Bool.false_eq_true, if_false]
                  by_cases h1 : ((measTo (w.extract 0 j) (w.extract 0 j).size : Nat) : Int) = 1
                  · have hb2' : b2 = false := by
                      cases b2 with
                      | false => rfl
                      | true => exact absurd ⟨by omega, rfl⟩ hc
                    rw [if_pos h1, hb2']; simp
                  · rw [if_neg h1]
            obtain ⟨b3, ⟨K4, hb3⟩, hp3⟩ := double_ev (w.extract 0 j) hs'
            have fin : ∀ d : Bool, (d = true → 1 < j) → (∀ k, (if b3 = true then (if hasSuf (w.extract 0 j) ⟨#[108]⟩ = true then (stem_past.j3 k (w.extract 0 j) false) else (if hasSuf (w.extract 0 j) ⟨#[115]⟩ = true then (stem_past.j3 k (w.extract 0 j) false) else (stem_past.j3 k (w.extract 0 j) (!hasSuf (w.extract 0 j) ⟨#[122]⟩)))) else (stem_past.j3 k (w.extract 0 j) false)) = stem_past.j3 k (w.extract 0 j) d) →
                ∃ r, Ev (fun k => stem_past.j2 k (w.extract 0 j) false) r ∧ Good w r := by
              intro d hd he
              obtain ⟨r, ⟨K5, hr⟩, hg⟩ := key3 d hd
              refine ⟨r, ⟨K4 + K5 + 1, fun k hk => ?_⟩, hg⟩
              obtain ⟨k, rfl⟩ : ∃ m, k = m + 1 := ⟨k - 1, by omega⟩
              have hb3 := hb3 k (by omega)
              have hr := hr k (by omega)
              simp only [] at hb3 hr
              simp only [stem_past.j2, hb3, Option.bind_some, hs_g _ _ hs', Bool.false_eq_true, if_false]
              rw [he, hr]
            by_cases c3 : b3 = true
            · have hj1 : 1 < j := by have := hp3 c3; omega
              by_cases c4 : hasSuf (w.extract 0 j) ⟨#[108]⟩ = true
              · exact fin false (by simp) (fun k => by simp [c3, c4])
              · by_cases c5 : hasSuf (w.extract 0 j) ⟨#[115]⟩ = true
                · exact fin false (by simp) (fun k => by simp [c3, c4, c5])
                · exact fin (!hasSuf (w.extract 0 j) ⟨#[122]⟩) (fun _ => hj1) (fun k => by simp [c3, c4, c5])
            · exact fin false (by simp) (fun k => by simp [c3])
        have key1 : ∃ r, Ev (fun k => stem_past.j1 k w (w.extract 0 j) false) r ∧ Good w r := by
          have fin : ∀ c : Bool, (∀ k, (if hasSuf (w.extract 0 j) ⟨#[97, 116]⟩ = true then (stem_past.j2 k (w.extract 0 j) (hasSuf (w.extract 0 j) ⟨#[97, 116]⟩)) else (if hasSuf (w.extract 0 j) ⟨#[98, 108]⟩ = true then (stem_past.j2 k (w.extract 0 j) (hasSuf (w.extract 0 j) ⟨#[98, 108]⟩)) else (stem_past.j2 k (w.extract 0 j) (hasSuf (w.extract 0 j) ⟨#[105, 122]⟩)))) = stem_past.j2 k (w.extract 0 j) c) →
              ∃ r, Ev (fun k => stem_past.j1 k w (w.extract 0 j) false) r ∧ Good w r := by
            intro c he
            obtain ⟨r, ⟨K5, hr⟩, hg⟩ := key2 c
            refine ⟨r, ⟨K5 + 1, fun k hk => ?_⟩, hg⟩
            obtain ⟨k, rfl⟩ : ∃ m, k = m + 1 := ⟨k - 1, by omega⟩
            have hr := hr k (by omega)
            simp only [] at hr
            simp only [stem_past.j1, Option.bind_some, hs_g _ _ hs', Bool.false_eq_true, if_false]
            rw [he, hr]
          by_cases c1 : hasSuf (w.extract 0 j) ⟨#[97, 116]⟩ = true
          · exact fin _ (fun k => by rw [if_pos c1])
          · by_cases c2 : hasSuf (w.extract 0 j) ⟨#[98, 108]⟩ = true
            · exact fin _ (fun k => by rw [if_neg c1, if_pos c2])
            · exact fin _ (fun k => by rw [if_neg c1, if_neg c2])
        obtain ⟨r, ⟨K5, hr⟩, hg⟩ := key1
        refine ⟨r, ⟨K1 + K5 + 1, fun k hk => ?_⟩, hg⟩
        obtain ⟨k, rfl⟩ : ∃ m, k = m + 1 := ⟨k - 1, by omega⟩
        have hb := hb k (by omega)
        have hr := hr k (by omega)
        simp only [] at hb hr
        simp only [stem_past.j0, hb, Option.bind_some]; simpa using hr
  unfold stem_past.f
  simp only [cut_f w _ hs, Option.bind_some]
  by_cases c1 : hasSuf w ⟨#[101, 101, 100]⟩ = true
  · have hle : 3 ≤ w.size := suf_le c1
    simp only [if_pos c1, if_true]
    have hsz := ext_size w (w.size - (⟨#[101, 101, 100]⟩ : ByteArray).size) (by omega)
    obtain ⟨K, hm⟩ := meas_ev (w.extract 0 (w.size - (⟨#[101, 101, 100]⟩ : ByteArray).size)) (by omega)
    by_cases hp : 0 < measTo (w.extract 0 (w.size - (⟨#[101, 101, 100]⟩ : ByteArray).size)) (w.extract 0 (w.size - (⟨#[101, 101, 100]⟩ : ByteArray).size)).size
    · have := meas_pos hp
      have h3 : (⟨#[101, 101, 100]⟩ : ByteArray).size = 3 := rfl
      refine ⟨_, ⟨K, fun k hk => ?_⟩, Good.cut (t := ⟨#[101, 101]⟩) (j := w.size - (⟨#[101, 101, 100]⟩ : ByteArray).size) hl (by omega) (by omega) (low_lit [101, 101] (by decide)) (by show 2 + _ ≤ _; omega)⟩
      have hm := hm k hk
      simp only [] at hm
      simp only [hm, Option.bind_some]
      rw [if_pos (by omega), if_pos (app_fit _ 2 (by omega) (by omega))]
    · refine ⟨w, ⟨K, fun k hk => ?_⟩, Good.refl hl h0⟩
      have hm := hm k hk
      simp only [] at hm
      simp only [hm, Option.bind_some]
      rw [if_neg (by omega)]
  · simp only [if_neg c1, Bool.false_eq_true, if_false]
    by_cases c2 : hasSuf w ⟨#[101, 100]⟩ = true
    · have hle : 2 ≤ w.size := suf_le c2
      simp only [if_pos c2, if_true]
      exact key0 _ _ (.inl (by show _ - 2 + 2 ≤ _; omega)) (by omega)
    · simp only [if_neg c2, Bool.false_eq_true, if_false]
      by_cases c3 : hasSuf w ⟨#[105, 110, 103]⟩ = true
      · have hle : 3 ≤ w.size := suf_le c3
        simp only [if_pos c3]
        exact key0 _ _ (.inl (by show _ - 3 + 2 ≤ _; omega)) (by omega)
      · simp only [if_neg c3]
        have := key0 w.size false (.inr rfl) (by omega)
        have he : w.extract 0 w.size = w := lst_inj (by rw [lst_take, ← lst_len, List.take_length])
        rwa [he] at this
/-- A table whose new ends are no longer, and small letters. -/
def tabOk (l : List S61) : Bool := l.all fun x => decide (x.f1.size ≤ x.f0.size) && ((lst x.f1).all fun b => decide (97 ≤ b.toNat) && decide (b.toNat ≤ 122))
theorem turn_ev (w : ByteArray) (hs : w.size ≤ 140737488351232) (hl : Low w) (h0 : 0 < w.size) (more : Nat) (l : List S61) (hlen : l.length ≤ 100) (hz : ∀ x ∈ l, x.f1.size ≤ 100) (ht : tabOk l = true) :
    ∃ r b, Ev (fun k => stem_turn.f k w (more : Int) l) (r, b) ∧ Good w r := by
  suffices H : ∀ d i : Nat, i ≤ l.length → l.length - i = d → ∃ r b, Ev (fun k => stem_turn.l0 k w (more : Int) l (l.length : Int) (i : Int)) (r, b) ∧ Good w r from H l.length 0 (by omega) (by omega)
  intro d
  induction d with
  | zero =>
    intro i hi hd
    refine ⟨w, false, ⟨1, fun k hk => ?_⟩, Good.refl hl h0⟩
    obtain ⟨k, rfl⟩ : ∃ m, k = m + 1 := ⟨k - 1, by omega⟩
    simp only [stem_turn.l0]
    rw [if_neg (by omega)]
  | succ d ih =>
    intro i hi hd
    have hil : i < l.length := by omega
    have hx : rd_T61 l (i : Int) = l[i] := by simp [rd_T61, hil]
    have hmem : l[i] ∈ l := List.getElem_mem hil
    have hok : l[i].f1.size ≤ l[i].f0.size ∧ Low l[i].f1 := by
      have := List.all_eq_true.1 ht _ hmem
      simp only [Bool.and_eq_true, decide_eq_true_eq, List.all_eq_true] at this
      exact ⟨this.1, fun b hb => this.2 b hb⟩
    have hzi := hz _ hmem
    by_cases c : hasSuf w l[i].f0 = true
    · have hle := suf_le c
      have hsz := ext_size w (w.size - l[i].f0.size) (by omega)
      obtain ⟨K, hm⟩ := meas_ev (w.extract 0 (w.size - l[i].f0.size)) (by omega)
      by_cases hp : more < measTo (w.extract 0 (w.size - l[i].f0.size)) (w.extract 0 (w.size - l[i].f0.size)).size
      · have hmp := meas_pos (Nat.lt_of_le_of_lt (Nat.zero_le _) hp)
        refine ⟨_, true, ⟨K + 1, fun k hk => ?_⟩, Good.cut (t := l[i].f1) (j := w.size - l[i].f0.size) hl (by omega) (by omega) hok.2 (by have := hok.1; omega)⟩
        obtain ⟨k, rfl⟩ : ∃ m, k = m + 1 := ⟨k - 1, by omega⟩
        have hm := hm k (by omega)
        simp only [] at hm
        simp only [stem_turn.l0]
        rw [if_pos (by omega), if_pos (by omega), if_pos (by omega), hx, cut_f w _ hs]
        simp only [Option.bind_some, if_pos c, if_true, hm]
        rw [if_pos (by omega), if_pos (by omega)]
      · refine ⟨w, true, ⟨K + 1, fun k hk => ?_⟩, Good.refl hl h0⟩
        obtain ⟨k, rfl⟩ : ∃ m, k = m + 1 := ⟨k - 1, by omega⟩
        have hm := hm k (by omega)
        simp only [] at hm
        simp only [stem_turn.l0]
        rw [if_pos (by omega), if_pos (by omega), if_pos (by omega), hx, cut_f w _ hs]
        simp only [Option.bind_some, if_pos c, if_true, hm]
        rw [if_neg (by omega)]
    · obtain ⟨r, b, ⟨K, hr⟩, hg⟩ := ih (i + 1) (by omega) (by omega)
      refine ⟨r, b, ⟨K + 1, fun k hk => ?_⟩, hg⟩
      obtain ⟨k, rfl⟩ : ∃ m, k = m + 1 := ⟨k - 1, by omega⟩
      have hr := hr k (by omega)
      simp only [] at hr
      simp only [stem_turn.l0]
      have hw : wrap64 ((i : Int) + 1) = ((i + 1 : Nat) : Int) := by rw [wrap_id (by omega) (by omega)]; omega
      rw [if_pos (by omega), if_pos (by omega), if_pos (by omega), hx, cut_f w _ hs, hw]
      simp only [Option.bind_some, if_neg c, Bool.false_eq_true, if_false]
      exact hr
theorem second_ev (w : ByteArray) (hs : w.size ≤ 140737488351232) (hl : Low w) (h0 : 0 < w.size) : ∃ r, Ev (fun k => stem_second.f k w) r ∧ Good w r := by
  unfold stem_second.f
  generalize hA : ([_, _, _, _, _, _, _, _, _, _, _, _, _, _, _, _, _, _, _, _] : List S61) = A
  generalize hB : ([_, _, _, _, _, _, _] : List S61) = B
  have a1 : A.length ≤ 100 := by subst hA; decide
  have a2 : ∀ x ∈ A, x.f1.size ≤ 100 := by subst hA; decide
  have a3 : tabOk A = true := by subst hA; decide
  have b1 : B.length ≤ 100 := by subst hB; decide
  have b2 : ∀ x ∈ B, x.f1.size ≤ 100 := by subst hB; decide
  have b3 : tabOk B = true := by subst hB; decide
  obtain ⟨r, b, e1, g1⟩ := turn_ev w hs hl h0 0 A a1 a2 a3
  obtain ⟨r', b', e2, g2⟩ := turn_ev r (by have := g1.2.2.1; omega) g1.1 g1.2.1 0 B b1 b2 b3
  refine ⟨r', ?_, g1.trans g2⟩
  refine Ev.bind e1 ?_
  refine Ev.bind e2 ?_
  exact Ev.now _
theorem fourth_ev (w : ByteArray) (hs : w.size ≤ 140737488351232) (hl : Low w) (h0 : 0 < w.size) : ∃ r, Ev (fun k => stem_fourth.f k w) r ∧ Good w r := by
  unfold stem_fourth.f
  generalize hA : ([_, _, _, _, _, _, _, _, _, _, _, _, _, _, _, _, _, _] : List S61) = A
  have a1 : A.length ≤ 100 := by subst hA; decide
  have a2 : ∀ x ∈ A, x.f1.size ≤ 100 := by subst hA; decide
  have a3 : tabOk A = true := by subst hA; decide
  clear hA
  simp only [cut_f w _ hs, Option.bind_some]
  by_cases c : hasSuf w ⟨#[105, 111, 110]⟩ = true
  · have hle : 3 ≤ w.size := suf_le c
    simp only [if_pos c, if_true]
    have hsz := ext_size w (w.size - (⟨#[105, 111, 110]⟩ : ByteArray).size) (by omega)
    obtain ⟨K, hm⟩ := meas_ev (w.extract 0 (w.size - (⟨#[105, 111, 110]⟩ : ByteArray).size)) (by omega)
    have hs' : (w.extract 0 (w.size - (⟨#[105, 111, 110]⟩ : ByteArray).size)).size ≤ 140737488351232 := by omega
    by_cases hp : 1 < measTo (w.extract 0 (w.size - (⟨#[105, 111, 110]⟩ : ByteArray).size)) (w.extract 0 (w.size - (⟨#[105, 111, 110]⟩ : ByteArray).size)).size
    · have hmp := meas_pos (Nat.lt_of_le_of_lt (Nat.zero_le _) hp)
      by_cases hq : hasSuf (w.extract 0 (w.size - (⟨#[105, 111, 110]⟩ : ByteArray).size)) ⟨#[115]⟩ = true ∨ hasSuf (w.extract 0 (w.size - (⟨#[105, 111, 110]⟩ : ByteArray).size)) ⟨#[116]⟩ = true
      · refine ⟨_, ⟨K, fun k hk => ?_⟩, Good.take (j := w.size - (⟨#[105, 111, 110]⟩ : ByteArray).size) hl (by omega) (by omega)⟩
        have hm := hm k hk
        simp only [] at hm
        simp only [hm, Option.bind_some, hs_g _ _ hs']
        rw [if_pos (by omega)]
        rcases hq with hq | hq
        · rw [if_pos hq]
        · rw [if_pos hq]; simp
      · refine ⟨w, ⟨K, fun k hk => ?_⟩, Good.refl hl h0⟩
        have hm := hm k hk
        simp only [] at hm
        simp only [hm, Option.bind_some, hs_g _ _ hs']
        rw [if_pos (by omega), if_neg (fun h => hq (.inl h)), if_neg (fun h => hq (.inr h))]
    · refine ⟨w, ⟨K, fun k hk => ?_⟩, Good.refl hl h0⟩
      have hm := hm k hk
      simp only [] at hm
      simp only [hm, Option.bind_some]
      rw [if_neg (by omega)]
  · simp only [if_neg c, Bool.false_eq_true, if_false]
    obtain ⟨r, b, e1, g1⟩ := turn_ev w hs hl h0 1 A a1 a2 a3
    exact ⟨r, Ev.bind e1 (Ev.now _), g1⟩
theorem fifth_ev (w : ByteArray) (hs : w.size ≤ 140737488351232) (hl : Low w) (h0 : 0 < w.size) : ∃ r, Ev (fun k => stem_fifth.f k w) r ∧ Good w r := by
  have key1 : ∀ x : ByteArray, Good w x → ∃ r, Ev (fun k => stem_fifth.j1 k x) r ∧ Good w r := by
    intro x hx
    have hxs : x.size ≤ 140737488351232 := by have := hx.2.2.1; omega
    have hx0 := hx.2.1
    have hw : wrap64 ((x.size : Int) - 1) = ((x.size - 1 : Nat) : Int) := by rw [wrap_id (by omega) (by omega)]; omega
    have hsz := ext_size x (x.size - 1) (by omega)
    obtain ⟨K, hm⟩ := meas_ev (x.extract 0 (x.size - 1)) (by omega)
    by_cases hq : hasSuf x ⟨#[108, 108]⟩ = true ∧ 1 < measTo (x.extract 0 (x.size - 1)) (x.extract 0 (x.size - 1)).size
    · have hmp := meas_pos (Nat.lt_of_le_of_lt (Nat.zero_le _) hq.2)
      refine ⟨_, ⟨K + 1, fun k hk => ?_⟩, hx.trans (Good.take (j := x.size - 1) hx.1 (by omega) (by omega))⟩
      obtain ⟨k, rfl⟩ : ∃ m, k = m + 1 := ⟨k - 1, by omega⟩
      have hm := hm k (by omega)
      simp only [] at hm
      simp only [stem_fifth.j1, hs_g _ _ hxs, Option.bind_some, hw]
      rw [if_pos hq.1, if_pos (by omega), if_pos (by omega), Int.toNat_natCast, hm]
      simp only [Option.bind_some]
      rw [if_pos (by omega)]
    · refine ⟨x, ⟨K + 1, fun k hk => ?_⟩, hx⟩
      obtain ⟨k, rfl⟩ : ∃ m, k = m + 1 := ⟨k - 1, by omega⟩
      have hm := hm k (by omega)
      simp only [] at hm
      simp only [stem_fifth.j1, hs_g _ _ hxs, Option.bind_some, hw]
      by_cases c : hasSuf x ⟨#[108, 108]⟩ = true
      · rw [if_pos c, if_pos (by omega), if_pos (by omega), Int.toNat_natCast, hm]
        simp only [Option.bind_some]
        rw [if_neg (fun h => hq ⟨c, by omega⟩)]
      · rw [if_neg c]
  have key0 : ∀ x b, (b = true → Good w x) → ∃ r, Ev (fun k => stem_fifth.j0 k w x b) r ∧ Good w r := by
    intro x b hx
    cases b with
    | true =>
      obtain ⟨r, e, g⟩ := key1 x (hx rfl)
      exact ⟨r, Ev.step (fun k => by simp [stem_fifth.j0]) e, g⟩
    | false =>
      obtain ⟨r, e, g⟩ := key1 w (Good.refl hl h0)
      exact ⟨r, Ev.step (fun k => by simp [stem_fifth.j0]) e, g⟩
  unfold stem_fifth.f
  simp only [cut_f w _ hs, Option.bind_some]
  by_cases c : hasSuf w ⟨#[101]⟩ = true
  · have hle : 1 ≤ w.size := suf_le c
    simp only [if_pos c, if_true]
    have hsz := ext_size w (w.size - (⟨#[101]⟩ : ByteArray).size) (by omega)
    have hs' : (w.extract 0 (w.size - (⟨#[101]⟩ : ByteArray).size)).size ≤ 140737488351232 := by omega
    obtain ⟨K, hm⟩ := meas_ev _ hs'
    obtain ⟨b2, K2, hb2⟩ := short_ev _ hs'
    by_cases hp : 1 < measTo (w.extract 0 (w.size - (⟨#[101]⟩ : ByteArray).size)) (w.extract 0 (w.size - (⟨#[101]⟩ : ByteArray).size)).size
    · have hmp := meas_pos (Nat.lt_of_le_of_lt (Nat.zero_le _) hp)
      obtain ⟨r, ⟨K3, e⟩, g⟩ := key0 (w.extract 0 (w.size - (⟨#[101]⟩ : ByteArray).size)) true (fun _ => Good.take hl (by omega) (by omega))
      refine ⟨r, ⟨K + K3, fun k hk => ?_⟩, g⟩
      have hm := hm k (by omega)
      have e := e k (by omega)
      simp only [] at hm e
      simp only [hm, Option.bind_some]
      rw [if_pos (by omega)]; exact e
    · by_cases hp1 : measTo (w.extract 0 (w.size - (⟨#[101]⟩ : ByteArray).size)) (w.extract 0 (w.size - (⟨#[101]⟩ : ByteArray).size)).size = 1
      · have hmp := meas_pos (s := w.extract 0 (w.size - (⟨#[101]⟩ : ByteArray).size)) (by omega)
        obtain ⟨r, ⟨K3, e⟩, g⟩ := key0 (w.extract 0 (w.size - (⟨#[101]⟩ : ByteArray).size)) (!b2) (fun _ => Good.take hl (by omega) (by omega))
        refine ⟨r, ⟨K + K2 + K3, fun k hk => ?_⟩, g⟩
        have hm := hm k (by omega)
        have hb2 := hb2 k (by omega)
        have e := e k (by omega)
        simp only [] at hm hb2 e
        simp only [hm, hb2, Option.bind_some]
        rw [if_neg (by omega), if_pos (by omega)]; exact e
      · obtain ⟨r, ⟨K3, e⟩, g⟩ := key0 (w.extract 0 (w.size - (⟨#[101]⟩ : ByteArray).size)) false (by simp)
        refine ⟨r, ⟨K + K3, fun k hk => ?_⟩, g⟩
        have hm := hm k (by omega)
        have e := e k (by omega)
        simp only [] at hm e
        simp only [hm, Option.bind_some]
        rw [if_neg (by omega), if_neg (by omega)]; exact e
  · simp only [if_neg c, Bool.false_eq_true, if_false]
    exact key0 _ _ (by simp)
/-- What stands behind the first step. -/
def rest (k : Nat) (t167 : ByteArray) : Option ByteArray := (strings_CutSuffix.f t167 (⟨#[121]⟩ : ByteArray)).bind fun bt168 => (if bt168.2 = true then ((stem_has.f k bt168.1).bind fun t170 => (stem_Stem.j1 k t167 bt168.1 t170)) else (stem_Stem.j1 k t167 bt168.1 false))
theorem steps_ev (w : ByteArray) (hs : w.size ≤ 140737488351232) (hl : Low w) (h0 : 0 < w.size) : ∃ r, Ev (fun k => (stem_second.f k w).bind fun a => (stem_fourth.f k a).bind fun b => (stem_fifth.f k b).bind fun c => some c) r ∧ Good w r := by
  obtain ⟨r1, e1, g1⟩ := second_ev w hs hl h0
  obtain ⟨r2, e2, g2⟩ := fourth_ev r1 (by have := g1.2.2.1; omega) g1.1 g1.2.1
  obtain ⟨r3, e3, g3⟩ := fifth_ev r2 (by have := g1.2.2.1; have := g2.2.2.1; omega) g2.1 g2.2.1
  exact ⟨r3, Ev.bind e1 (Ev.bind e2 (Ev.bind e3 (Ev.now _))), (g1.trans g2).trans g3⟩
theorem rest_ev (w : ByteArray) (hs : w.size ≤ 140737488351232) (hl : Low w) (h0 : 0 < w.size) : ∃ r, Ev (fun k => rest k w) r ∧ Good w r := by
  have key : ∀ x b, (b = true → Good w (x ++ (⟨#[105]⟩ : ByteArray)) ∧ x.size ≤ w.size) → ∃ r, Ev (fun k => stem_Stem.j1 k w x b) r ∧ Good w r := by
    intro x b hx
    cases b with
    | true =>
      obtain ⟨gx, hxs⟩ := hx rfl
      obtain ⟨r, e, g⟩ := steps_ev (x ++ (⟨#[105]⟩ : ByteArray)) (by have := gx.2.2.1; omega) gx.1 gx.2.1
      refine ⟨r, Ev.step (fun k => ?_) e, gx.trans g⟩
      simp only [stem_Stem.j1, if_true]
      rw [if_pos (app_fit _ 1 (by omega) (by omega))]
    | false =>
      obtain ⟨r, e, g⟩ := steps_ev w hs hl h0
      refine ⟨r, Ev.step (fun k => ?_) e, g⟩
      simp only [stem_Stem.j1, Bool.false_eq_true, if_false]
  unfold rest
  simp only [cut_f w _ hs, Option.bind_some]
  by_cases c : hasSuf w ⟨#[121]⟩ = true
  · have hle : 1 ≤ w.size := suf_le c
    have h1 : (⟨#[121]⟩ : ByteArray).size = 1 := rfl
    simp only [if_pos c, if_true]
    have hsz := ext_size w (w.size - (⟨#[121]⟩ : ByteArray).size) (by omega)
    obtain ⟨b, e, hp⟩ := has_ev (w.extract 0 (w.size - (⟨#[121]⟩ : ByteArray).size)) (by omega)
    obtain ⟨r, e2, g⟩ := key (w.extract 0 (w.size - (⟨#[121]⟩ : ByteArray).size)) b (fun hb => ⟨Good.cut hl (by have := hp hb; omega) (by omega) (low_lit [105] (by decide)) (by show 1 + _ ≤ _; omega), by omega⟩)
    exact ⟨r, Ev.bind e e2, g⟩
  · simp only [if_neg c, Bool.false_eq_true, if_false]
    exact key _ _ (by simp)
theorem low_bt {w : ByteArray} (h : Low w) (i : Nat) (hi : i < w.size) : 97 ≤ bt w (i : Int) ∧ bt w (i : Int) ≤ 122 := by
  rw [bt_lst w i hi]
  have := h _ (List.getElem_mem (by rw [lst_len]; exact hi : i < (lst w).length))
  omega
/-- The loop over the letters of a word of small letters. -/
theorem stem_loop (w : ByteArray) (hs : w.size ≤ 140737488351232) (hl : Low w) {r : ByteArray} (hr : Ev (fun k => (stem_plural.f k w).bind fun t166 => ((stem_past.f k t166).bind fun t167 => rest k t167)) r) :
    ∀ d i : Nat, i ≤ w.size → w.size - i = d → Ev (fun k => stem_Stem.l0 k w (w.size : Int) (i : Int)) r := by
  intro d
  induction d with
  | zero =>
    intro i hi hd
    refine Ev.step (fun k => ?_) hr
    simp only [stem_Stem.l0]
    rw [if_neg (by omega)]; rfl
  | succ d ih =>
    intro i hi hd
    refine Ev.step (fun k => ?_) (ih (i + 1) (by omega) (by omega))
    have hb := low_bt hl i (by omega)
    have hw : wrap64 ((i : Int) + 1) = ((i + 1 : Nat) : Int) := by rw [wrap_id (by omega) (by omega)]; omega
    simp only [stem_Stem.l0]
    rw [if_pos (by omega), if_pos (by omega), if_pos (by omega), if_neg (by omega), if_neg (by omega), hw]
theorem stem_ev (w : ByteArray) (hs : w.size ≤ 140737488351232) (hl : Low w) (h3 : 3 ≤ w.size) : ∃ r, Ev (fun k => stem_Stem.f k w) r ∧ Good w r := by
  obtain ⟨r1, e1, g1⟩ := plural_ev w hs hl h3
  obtain ⟨r2, e2, g2⟩ := past_ev r1 (by have := g1.2.2.1; omega) g1.1 g1.2.1
  obtain ⟨r3, e3, g3⟩ := rest_ev r2 (by have := g1.2.2.1; have := g2.2.2.1; omega) g2.1 g2.2.1
  refine ⟨r3, ?_, (g1.trans g2).trans g3⟩
  have := stem_loop w hs hl (r := r3) (Ev.bind e1 (Ev.bind e2 e3)) w.size 0 (by omega) (by omega)
  refine Ev.congr (fun k => ?_) this
  unfold stem_Stem.f
  rw [if_neg (by omega)]; rfl
theorem plain_true (w : ByteArray) (hs : w.size ≤ 140737488351232) (hl : Low w) : Ev (fun k => catchwordlaw03_plain.f k w) (decide ((w.size : Int) ≥ 3)) := by
  suffices H : ∀ d i : Nat, i ≤ w.size → w.size - i = d → Ev (fun k => catchwordlaw03_plain.l0 k w (i : Int)) (decide ((w.size : Int) ≥ 3)) from H w.size 0 (by omega) (by omega)
  intro d
  induction d with
  | zero =>
    intro i hi hd
    refine ⟨1, fun k hk => ?_⟩
    obtain ⟨k, rfl⟩ : ∃ m, k = m + 1 := ⟨k - 1, by omega⟩
    simp only [catchwordlaw03_plain.l0]
    rw [if_neg (by omega)]
  | succ d ih =>
    intro i hi hd
    refine Ev.step (fun k => ?_) (ih (i + 1) (by omega) (by omega))
    have hb := low_bt hl i (by omega)
    have hw : wrap64 ((i : Int) + 1) = ((i + 1 : Nat) : Int) := by rw [wrap_id (by omega) (by omega)]; omega
    simp only [catchwordlaw03_plain.l0]
    rw [if_pos (by omega), if_pos (by omega), if_neg (by omega), if_neg (by omega), hw]
/-- The first place that is no small letter. -/
theorem low_or (w : ByteArray) : Low w ∨ ∃ i, ∃ h : i < w.size, (bt w (i : Int) < 97 ∨ bt w (i : Int) > 122) ∧ ∀ j, j < i → 97 ≤ bt w (j : Int) ∧ bt w (j : Int) ≤ 122 := by
  suffices H : ∀ n, n ≤ w.size → (∀ j, j < n → 97 ≤ bt w (j : Int) ∧ bt w (j : Int) ≤ 122) ∨ ∃ i, ∃ h : i < w.size, (bt w (i : Int) < 97 ∨ bt w (i : Int) > 122) ∧ ∀ j, j < i → 97 ≤ bt w (j : Int) ∧ bt w (j : Int) ≤ 122 by
    rcases H w.size (Nat.le_refl _) with h | h
    · left
      intro b hb
      obtain ⟨i, hi, rfl⟩ := List.getElem_of_mem hb
      have hi' : i < w.size := by rw [← lst_len]; exact hi
      have := h i hi'
      rw [bt_lst w i hi'] at this
      omega
    · exact .inr h
  intro n
  induction n with
  | zero => intro _; left; intro j hj; omega
  | succ n ih =>
    intro hn
    rcases ih (by omega) with h | h
    · by_cases c : 97 ≤ bt w (n : Int) ∧ bt w (n : Int) ≤ 122
      · left
        intro j hj
        by_cases e : j = n
        · subst e; exact c
        · exact h j (by omega)
      · right
        exact ⟨n, by omega, by omega, h⟩
    · exact .inr h
theorem plain_false (w : ByteArray) (hs : w.size ≤ 140737488351232) (n : Nat) (hn : n < w.size) (hb : bt w (n : Int) < 97 ∨ bt w (n : Int) > 122) (hlow : ∀ j, j < n → 97 ≤ bt w (j : Int) ∧ bt w (j : Int) ≤ 122) :
    Ev (fun k => catchwordlaw03_plain.f k w) false := by
  suffices H : ∀ d i : Nat, i ≤ n → n - i = d → Ev (fun k => catchwordlaw03_plain.l0 k w (i : Int)) false from H n 0 (by omega) (by omega)
  intro d
  induction d with
  | zero =>
    intro i hi hd
    obtain rfl : i = n := by omega
    refine ⟨1, fun k hk => ?_⟩
    obtain ⟨k, rfl⟩ : ∃ m, k = m + 1 := ⟨k - 1, by omega⟩
    simp only [catchwordlaw03_plain.l0]
    rw [if_pos (by omega), if_pos (by omega)]
    rcases hb with hb | hb
    · rw [if_pos hb]
    · rw [if_neg (by omega), if_pos hb]
  | succ d ih =>
    intro i hi hd
    refine Ev.step (fun k => ?_) (ih (i + 1) (by omega) (by omega))
    have hb := hlow i (by omega)
    have hw : wrap64 ((i : Int) + 1) = ((i + 1 : Nat) : Int) := by rw [wrap_id (by omega) (by omega)]; omega
    simp only [catchwordlaw03_plain.l0]
    rw [if_pos (by omega), if_pos (by omega), if_neg (by omega), if_neg (by omega), hw]
theorem stem_stays (w : ByteArray) (hs : w.size ≤ 140737488351232) (n : Nat) (hn : n < w.size) (hb : bt w (n : Int) < 97 ∨ bt w (n : Int) > 122) (hlow : ∀ j, j < n → 97 ≤ bt w (j : Int) ∧ bt w (j : Int) ≤ 122) :
    Ev (fun k => stem_Stem.f k w) w := by
  by_cases h3 : w.size < 3
  · refine ⟨0, fun k hk => ?_⟩
    simp only [stem_Stem.f]
    rw [if_pos (by omega)]
  suffices H : ∀ d i : Nat, i ≤ n → n - i = d → Ev (fun k => stem_Stem.l0 k w (w.size : Int) (i : Int)) w by
    refine Ev.congr (fun k => ?_) (H n 0 (by omega) (by omega))
    unfold stem_Stem.f
    rw [if_neg (by omega)]; rfl
  intro d
  induction d with
  | zero =>
    intro i hi hd
    obtain rfl : i = n := by omega
    refine ⟨1, fun k hk => ?_⟩
    obtain ⟨k, rfl⟩ : ∃ m, k = m + 1 := ⟨k - 1, by omega⟩
    simp only [stem_Stem.l0]
    rw [if_pos (by omega), if_pos (by omega), if_pos (by omega)]
    rcases hb with hb | hb
    · rw [if_pos hb]
    · rw [if_neg (by omega), if_pos hb]
  | succ d ih =>
    intro i hi hd
    refine Ev.step (fun k => ?_) (ih (i + 1) (by omega) (by omega))
    have hb := hlow i (by omega)
    have hw : wrap64 ((i : Int) + 1) = ((i + 1 : Nat) : Int) := by rw [wrap_id (by omega) (by omega)]; omega
    simp only [stem_Stem.l0]
    rw [if_pos (by omega), if_pos (by omega), if_pos (by omega), if_neg (by omega), if_neg (by omega), hw]
theorem stem_small (w : ByteArray) (h : w.size < 3) : Ev (fun k => stem_Stem.f k w) w := by
  refine ⟨0, fun k hk => ?_⟩
  simp only [stem_Stem.f]
  rw [if_pos (by omega)]
end StemAid
end Go.Proofs.Ytnemoodjbekngaa.Pure
