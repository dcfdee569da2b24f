/- Printed by a program of this repo, over the kit's print, for this claim; hand-made contracts stand among it. Plain theorems, Lean checks them. -/
import Derived.Test.YtneigokookpngaaDoorAVerRows2
namespace Go.Proofs.YtneigokookpngaaDoor.Q
open Go.RowKit Go.Proofs.YtneigokookpngaaDoorW.PrintWords Go.Proofs.YtneigokookpngaaDoorW.PrintLast Go.Proofs.YtneigokookpngaaDoorW.PrintMore
attribute [local go_sem] max2_int min2_int max_two min_two max_three min_three max_four min_four   -- for this text's walks alone
set_option linter.unusedVariables false
set_option linter.unusedSimpArgs false
/-! ### mancipleref9_parts: function 22 -/
mutual
def mancipleref9_parts.j2 : Nat → ByteArray → ByteArray → Option (ByteArray × ByteArray × ByteArray × Bool)
  | 0, _, _ => none
  | k + 1, x0, x6 => (mancipleref9_place.f k x0 45).bind fun t277 => (if t277 ≥ 0 then (if 0 ≤ (wrap64 (t277 + 1)) then (if (wrap64 (t277 + 1)) ≤ (x0.size : Int) then ((some (x0.extract ((wrap64 (t277 + 1)) : Int).toNat x0.size : ByteArray)).bind fun y278 => (if 0 ≤ t277 then (if t277 ≤ (x0.size : Int) then ((some (x0.extract 0 (t277 : Int).toNat : ByteArray)).bind fun y279 => ((mancipleref9_part.f k y278).bind fun t280 => (if t280 = true then ((mancipleref9_part.f k y279).bind fun t281 => (some (x6, y279, y278, t281))) else (some ((⟨#[]⟩ : ByteArray), (⟨#[]⟩ : ByteArray), (⟨#[]⟩ : ByteArray), false))))) else (none)) else (none))) else (none)) else (none)) else ((mancipleref9_part.f k x0).bind fun t282 => (some (x6, x0, (⟨#[]⟩ : ByteArray), t282))))
def mancipleref9_parts.j0 : Nat → ByteArray → ByteArray → Bool → Option (ByteArray × ByteArray × ByteArray × Bool)
  | 0, _, _, _ => none
  | k + 1, x0, x6, x28 => if x28 = true then (some ((⟨#[]⟩ : ByteArray), (⟨#[]⟩ : ByteArray), (⟨#[]⟩ : ByteArray), false)) else (mancipleref9_parts.l0 k x0 x6 0)
def mancipleref9_parts.l0 : Nat → ByteArray → ByteArray → Int → Option (ByteArray × ByteArray × ByteArray × Bool)
  | 0, _, _, _ => none
  | k + 1, x0, x6, x8 => if x8 < (x6.size : Int) then (if 0 ≤ x8 then ((mancipleref9_digit.f (bt x6 x8)).bind fun t276 => (if t276 = true then (mancipleref9_parts.l0 k x0 x6 (wrap64 (x8 + 1))) else (some ((⟨#[]⟩ : ByteArray), (⟨#[]⟩ : ByteArray), (⟨#[]⟩ : ByteArray), false)))) else (none)) else (mancipleref9_parts.j2 k x0 x6)
end
def mancipleref9_parts.f (k : Nat) (a0 : ByteArray) : Option (ByteArray × ByteArray × ByteArray × Bool) := (mancipleref9_place.f k a0 58).bind fun t273 => (if t273 ≥ 0 then (if 0 ≤ t273 then (if t273 ≤ (a0.size : Int) then ((some (a0.extract 0 (t273 : Int).toNat : ByteArray)).bind fun y274 => (if 0 ≤ (wrap64 (t273 + 1)) then (if (wrap64 (t273 + 1)) ≤ (a0.size : Int) then ((some (a0.extract ((wrap64 (t273 + 1)) : Int).toNat a0.size : ByteArray)).bind fun y275 => (if (y274.size : Int) < 1 then (mancipleref9_parts.j0 k y275 y274 true) else (mancipleref9_parts.j0 k y275 y274 (decide ((y274.size : Int) > 6))))) else (none)) else (none))) else (none)) else (none)) else (mancipleref9_parts.j2 k a0 (⟨#[]⟩ : ByteArray)))
theorem mancipleref9_parts.mono_l : ∀ k, (∀ y0 y1, LeO (mancipleref9_parts.j2 k y0 y1) (mancipleref9_parts.j2 (k + 1) y0 y1)) ∧ (∀ y0 y1 y2, LeO (mancipleref9_parts.j0 k y0 y1 y2) (mancipleref9_parts.j0 (k + 1) y0 y1 y2)) ∧ (∀ y0 y1 y2, LeO (mancipleref9_parts.l0 k y0 y1 y2) (mancipleref9_parts.l0 (k + 1) y0 y1 y2))
  | 0 => ⟨fun _ _ r h => by simp [mancipleref9_parts.j2] at h, fun _ _ _ r h => by simp [mancipleref9_parts.j0] at h, fun _ _ _ r h => by simp [mancipleref9_parts.l0] at h⟩
  | k + 1 => by
    obtain ⟨ih0, ih1, ih2⟩ := mancipleref9_parts.mono_l k
    refine ⟨?_, ?_, ?_⟩
    · intro y0 y1
      unfold mancipleref9_parts.j2
      repeat' first
      | (with_reducible exact ih0 _ _)
      | (with_reducible exact ih1 _ _ _)
      | (with_reducible exact ih2 _ _ _)
      | (with_reducible exact mancipleref9_part.mono _ _)
      | (with_reducible exact mancipleref9_place.mono _ _ _)
      | (with_reducible exact LeO.refl _)
      | (with_reducible exact LeO.none _)
      | (with_reducible refine LeO.ite ?_ ?_)
      | (with_reducible refine LeO.bind ?_ (fun _ => ?_))
      | exact ih0 _ _
      | exact ih1 _ _ _
      | exact ih2 _ _ _
      | exact mancipleref9_part.mono _ _
      | exact mancipleref9_place.mono _ _ _
      | exact LeO.none _
      | refine LeO.ite ?_ ?_
      | refine LeO.bind ?_ (fun _ => ?_)
    · intro y0 y1 y2
      unfold mancipleref9_parts.j0
      repeat' first
      | (with_reducible exact ih0 _ _)
      | (with_reducible exact ih1 _ _ _)
      | (with_reducible exact ih2 _ _ _)
      | (with_reducible exact mancipleref9_part.mono _ _)
      | (with_reducible exact mancipleref9_place.mono _ _ _)
      | (with_reducible exact LeO.refl _)
      | (with_reducible exact LeO.none _)
      | (with_reducible refine LeO.ite ?_ ?_)
      | (with_reducible refine LeO.bind ?_ (fun _ => ?_))
      | exact ih0 _ _
      | exact ih1 _ _ _
      | exact ih2 _ _ _
      | exact mancipleref9_part.mono _ _
      | exact mancipleref9_place.mono _ _ _
      | exact LeO.none _
      | refine LeO.ite ?_ ?_
      | refine LeO.bind ?_ (fun _ => ?_)
    · intro y0 y1 y2
      unfold mancipleref9_parts.l0
      repeat' first
      | (with_reducible exact ih0 _ _)
      | (with_reducible exact ih1 _ _ _)
      | (with_reducible exact ih2 _ _ _)
      | (with_reducible exact mancipleref9_part.mono _ _)
      | (with_reducible exact mancipleref9_place.mono _ _ _)
      | (with_reducible exact LeO.refl _)
      | (with_reducible exact LeO.none _)
      | (with_reducible refine LeO.ite ?_ ?_)
      | (with_reducible refine LeO.bind ?_ (fun _ => ?_))
      | exact ih0 _ _
      | exact ih1 _ _ _
      | exact ih2 _ _ _
      | exact mancipleref9_part.mono _ _
      | exact mancipleref9_place.mono _ _ _
      | exact LeO.none _
      | refine LeO.ite ?_ ?_
      | refine LeO.bind ?_ (fun _ => ?_)
theorem mancipleref9_parts.mono : ∀ a0 k, LeO (mancipleref9_parts.f k a0) (mancipleref9_parts.f (k + 1) a0) := by
  intro a0 k
  obtain ⟨ih0, ih1, ih2⟩ := mancipleref9_parts.mono_l k
  unfold mancipleref9_parts.f
  repeat' first
      | (with_reducible exact ih0 _ _)
      | (with_reducible exact ih1 _ _ _)
      | (with_reducible exact ih2 _ _ _)
      | (with_reducible exact mancipleref9_part.mono _ _)
      | (with_reducible exact mancipleref9_place.mono _ _ _)
      | (with_reducible exact LeO.refl _)
      | (with_reducible exact LeO.none _)
      | (with_reducible refine LeO.ite ?_ ?_)
      | (with_reducible refine LeO.bind ?_ (fun _ => ?_))
      | exact ih0 _ _
      | exact ih1 _ _ _
      | exact ih2 _ _ _
      | exact mancipleref9_part.mono _ _
      | exact mancipleref9_place.mono _ _ _
      | exact LeO.none _
      | refine LeO.ite ?_ ?_
      | refine LeO.bind ?_ (fun _ => ?_)
set_option maxHeartbeats 8000000 in
set_option maxRecDepth 100000 in
theorem mancipleref9_parts.calls (k : Nat) (a0 : ByteArray) (r1 : ByteArray) (r2 : ByteArray) (r3 : ByteArray) (r4 : Bool) (w : World) (h : mancipleref9_parts.f k a0 = some (r1, r2, r3, r4)) :
    Calls Tryd.prog 22 #[.string a0] w fun e w' => e = .returned (.tuple #[.string r1, .string r2, .string r3, .bool r4]) ∧ Drawn0 w w' := by
  have H : ((mancipleref9_place.f k a0 58).bind fun t273 => (if t273 ≥ 0 then (if 0 ≤ t273 then (if t273 ≤ (a0.size : Int) then ((some (a0.extract 0 (t273 : Int).toNat : ByteArray)).bind fun y274 => (if 0 ≤ (wrap64 (t273 + 1)) then (if (wrap64 (t273 + 1)) ≤ (a0.size : Int) then ((some (a0.extract ((wrap64 (t273 + 1)) : Int).toNat a0.size : ByteArray)).bind fun y275 => (if (y274.size : Int) < 1 then (mancipleref9_parts.j0 k y275 y274 true) else (mancipleref9_parts.j0 k y275 y274 (decide ((y274.size : Int) > 6))))) else (none)) else (none))) else (none)) else (none)) else (mancipleref9_parts.j2 k a0 (⟨#[]⟩ : ByteArray)))) = some (r1, r2, r3, r4) := h
  clear h
  replace H := Option.bind_eq_some_iff.mp H
  obtain ⟨t273, A20, H⟩ := H
  replace H : (if t273 ≥ 0 then (if 0 ≤ t273 then (if t273 ≤ (a0.size : Int) then ((some (a0.extract 0 (t273 : Int).toNat : ByteArray)).bind fun y274 => (if 0 ≤ (wrap64 (t273 + 1)) then (if (wrap64 (t273 + 1)) ≤ (a0.size : Int) then ((some (a0.extract ((wrap64 (t273 + 1)) : Int).toNat a0.size : ByteArray)).bind fun y275 => (if (y274.size : Int) < 1 then (mancipleref9_parts.j0 k y275 y274 true) else (mancipleref9_parts.j0 k y275 y274 (decide ((y274.size : Int) > 6))))) else (none)) else (none))) else (none)) else (none)) else (mancipleref9_parts.j2 k a0 (⟨#[]⟩ : ByteArray))) = some (r1, r2, r3, r4) := H
  have A2 := Aside0.mk A20
  clear A20
  have HC3 := Aside0.mk H
  clear H
  go_enter Tryd.func22, Tryd.ntmps22
  go_upto_if 13 with (first | ((with_reducible refine gate_callee (f := 40) rfl ?_); refine goesL_ (some 11) rfl rfl Tryd.func40 (by kernel_rfl) rfl #[.string a0, .int .u8 58] rfl (by (try simp only [List.map_toArray, List.map_cons, List.map_nil]); first | done | rfl | (simp only [List.length_drop, List.length_take]; rfl)) ?_; (with_reducible refine (mancipleref9_place.calls k a0 58 t273 _ A2.out).mono ?_); rintro e w' ⟨rfl, ⟨nd, rfl⟩⟩; refine ⟨_, rfl, ?_⟩))
  (try simp only [Act.put, List.setIfInBounds_toArray, List.set_cons_zero, List.set_cons_succ])
  go_cut [0, 6] (fun v0 v6 wc => ∃ (kq : Nat) (x0_2 : ByteArray) (x6_2 : ByteArray), v0 = .string x0_2 ∧ v6 = .string x6_2 ∧ Aside0 (mancipleref9_parts.j2 kq x0_2 x6_2 = some (r1, r2, r3, r4)) ∧ Aside0 (kq ≤ k) ∧ Drawn0 w wc)
  case first =>
    have H := HC3.out
    clear HC3
    by_cases c4 : t273 ≥ 0
    · rw [if_pos c4] at H
      have c4b0 : decide (0 ≤ t273) = true := decide_eq_true c4
      clear c4
      (first | rw [c4b0] | (simp only [i64_w, i32_w]; rw [c4b0]) | rw [c4b2] | skip)
      by_cases c5 : 0 ≤ t273
      · rw [if_pos c5] at H
        have c5b0 := eq_true c5
        have c5b1 : decide (0 ≤ t273) = true := decide_eq_true c5
        clear c5
        by_cases c6 : t273 ≤ (a0.size : Int)
        · rw [if_pos c6] at H
          have c6b0 := eq_true c6
          have c6b1 : decide (t273 ≤ (a0.size : Int)) = true := decide_eq_true c6
          clear c6
          obtain ⟨y274, hy274⟩ : ∃ y_ : ByteArray, y_ = (a0.extract 0 (t273 : Int).toNat) := ⟨_, rfl⟩
          replace H : (if 0 ≤ (wrap64 (t273 + 1)) then (if (wrap64 (t273 + 1)) ≤ (a0.size : Int) then ((some (a0.extract ((wrap64 (t273 + 1)) : Int).toNat a0.size : ByteArray)).bind fun y275 => (if (y274.size : Int) < 1 then (mancipleref9_parts.j0 k y275 y274 true) else (mancipleref9_parts.j0 k y275 y274 (decide ((y274.size : Int) > 6))))) else (none)) else (none)) = some (r1, r2, r3, r4) := by first | (rw [hy274]; with_reducible exact H) | (have H2_ := (Option.bind_some _ _).symm.trans H; rw [hy274]; with_reducible exact H2_) | (have H2_ := (Option.bind_some _ _).symm.trans H; with_reducible exact H2_) | with_reducible exact H | (rw [hy274]; exact H) | exact H
          have Ny274 := Aside0.mk hy274
          clear hy274
          have Ey274 : a0.extract 0 (t273 : Int).toNat = y274 := Ny274.out.symm
          obtain ⟨ji7, hji7⟩ : ∃ j_ : Int, (wrap64 (t273 + 1)) = j_ := ⟨_, rfl⟩
          replace H : (if 0 ≤ (ji7) then (if (ji7) ≤ (a0.size : Int) then ((some (a0.extract ((ji7) : Int).toNat a0.size : ByteArray)).bind fun y275 => (if (y274.size : Int) < 1 then (mancipleref9_parts.j0 k y275 y274 true) else (mancipleref9_parts.j0 k y275 y274 (decide ((y274.size : Int) > 6))))) else (none)) else (none)) = some (r1, r2, r3, r4) := by first | (rw [hji7] at H; exact H) | (simp only [hji7] at H ⊢; exact H)
          have hji7w : (IntKind.i64.wrap (t273 + 1)) = ji7 := (i64_w _).trans hji7
          by_cases c8 : 0 ≤ (ji7)
          · rw [if_pos c8] at H
            have c8b0 := eq_true c8
            have c8b1 : decide (0 ≤ (ji7)) = true := decide_eq_true c8
            clear c8
            by_cases c9 : (ji7) ≤ (a0.size : Int)
            · rw [if_pos c9] at H
              have c9b0 := eq_true c9
              have c9b1 : decide ((ji7) ≤ (a0.size : Int)) = true := decide_eq_true c9
              clear c9
              obtain ⟨y275, hy275⟩ : ∃ y_ : ByteArray, y_ = (a0.extract ((ji7) : Int).toNat a0.size) := ⟨_, rfl⟩
              replace H : (if (y274.size : Int) < 1 then (mancipleref9_parts.j0 k y275 y274 true) else (mancipleref9_parts.j0 k y275 y274 (decide ((y274.size : Int) > 6)))) = some (r1, r2, r3, r4) := by first | (rw [hy275]; with_reducible exact H) | (have H2_ := (Option.bind_some _ _).symm.trans H; rw [hy275]; with_reducible exact H2_) | (have H2_ := (Option.bind_some _ _).symm.trans H; with_reducible exact H2_) | with_reducible exact H | (rw [hy275]; exact H) | exact H
              have Ny275 := Aside0.mk hy275
              clear hy275
              have Ey275 : a0.extract ((ji7) : Int).toNat a0.size = y275 := Ny275.out.symm
              have HC10 := Aside0.mk H
              clear H
              go_upto_region 6 with (fail)
              go_cut [28] (fun v28 wc => ∃ (kq : Nat) (x28_9 : Bool), v28 = .bool x28_9 ∧ Aside0 (mancipleref9_parts.j0 kq y275 y274 x28_9 = some (r1, r2, r3, r4)) ∧ Aside0 (kq ≤ k) ∧ Drawn0 w wc)
              case first =>
                have H := HC10.out
                clear HC10
                by_cases c11 : (y274.size : Int) < 1
                · rw [if_pos c11] at H
                  have c11b0 : decide ((y274.size : Int) < 1) = true := decide_eq_true c11
                  have c11b1 : decide (y274.size < 1) = true := decide_eq_true (by omega)
                  clear c11
                  (first | rw [c11b0] | (simp only [i64_w, i32_w]; rw [c11b0]) | rw [c11b2] | skip)
                  have H' := Aside0.mk H
                  clear H
                  go_wp2
                  go_meet
                  case rel => exact ⟨_, (true), (by first | rfl | (simp; done) | (simp [*]; done)), H', ⟨by first | omega | exact Nat.le_refl _⟩, by repeat (first | exact Drawn0.refl _ | apply Drawn0.step)⟩
                · rw [if_neg c11] at H
                  have c11b0 : decide ((y274.size : Int) < 1) = false := decide_eq_false c11
                  have c11b1 : decide (y274.size < 1) = false := decide_eq_false (by omega)
                  clear c11
                  (first | rw [c11b0] | (simp only [i64_w, i32_w]; rw [c11b0]) | rw [c11b2] | skip)
                  have H' := Aside0.mk H
                  clear H
                  go_wp2
                  go_meet
                  case rel => exact ⟨_, (decide ((y274.size : Int) > 6)), (by first | rfl | (simp; done) | (simp [*]; done)), H', ⟨by first | omega | exact Nat.le_refl _⟩, by repeat (first | exact Drawn0.refl _ | apply Drawn0.step)⟩
              case rest =>
                clear HC10
                try clear c1
                try clear c2
                try clear p2
                try clear c4
                try clear c4b0
                try clear c4b2
                try clear c5
                try clear c5b0
                try clear c5b1
                try clear c6
                try clear c6b0
                try clear c6b1
                try clear p6
                try clear c8
                try clear c8b0
                try clear c8b1
                try clear c9
                try clear c9b0
                try clear c9b1
                try clear c11
                try clear c11b0
                try clear c11b1
                try clear c11b2
                obtain ⟨kq, x28_9, rfl, HA, HJ9, ⟨mc9, rfl⟩⟩ := hcut
                cases kq with
                | zero => exact absurd HA.out (by simp [mancipleref9_parts.j0])
                | succ kj9 =>
                  have H := HA.out
                  clear HA
                  simp only [mancipleref9_parts.j0] at H
                  by_cases c12 : x28_9 = true
                  · subst c12
                    have H1 : (some ((⟨#[]⟩ : ByteArray), (⟨#[]⟩ : ByteArray), (⟨#[]⟩ : ByteArray), false)) = some (r1, r2, r3, r4) := by rw [if_pos rfl] at H; exact H
                    clear H
                    have H := H1
                    clear H1
                    simp only [Option.some.injEq, Prod.mk.injEq] at H
                    obtain ⟨rfl, rfl, rfl, rfl⟩ := H
                    go_wp2
                    refine bodyPost_ret (results_list (rs := [.tmp 2, .tmp 3, .tmp 4, .tmp 5]) rfl (by simp) (.tmp (.tmp (.tmp (.tmp .nil))))) rfl ?_
                    exact ⟨by first | rfl | (simp; done) | (simp only [← hji7] <;> (first | rfl | simp)) | (simp [*]; done), by repeat (first | exact Drawn0.refl _ | apply Drawn0.step)⟩
                  · replace c12 := Bool.eq_false_iff.mpr c12
                    subst c12
                    have H1 : (mancipleref9_parts.l0 kj9 y275 y274 0) = some (r1, r2, r3, r4) := by rw [if_neg (show ¬ (false = true) by decide)] at H; exact H
                    clear H
                    have H := H1
                    clear H1
                    have H' := Aside0.mk H
                    clear H
                    go_wp2
                    go_loopg [8] kj9 (fun kq v8 w' => ∃ (x8_2 : Int), v8 = .int .i64 x8_2 ∧ Aside0 (mancipleref9_parts.l0 kq y275 y274 x8_2 = some (r1, r2, r3, r4)) ∧ Aside0 (kq ≤ kj9) ∧ Drawn0 w w')
                    case atStart => exact ⟨(0), (by first | rfl | (simp; done) | (simp [*]; done)), H', ⟨Nat.le_refl _⟩, by repeat (first | exact Drawn0.refl _ | apply Drawn0.step)⟩
                    case round =>
                      clear H'
                      try clear c1
                      try clear c2
                      try clear p2
                      try clear c4
                      try clear c4b0
                      try clear c4b2
                      try clear c5
                      try clear c5b0
                      try clear c5b1
                      try clear c6
                      try clear c6b0
                      try clear c6b1
                      try clear p6
                      try clear c8
                      try clear c8b0
                      try clear c8b1
                      try clear c9
                      try clear c9b0
                      try clear c9b1
                      try clear c11
                      try clear c11b0
                      try clear c11b1
                      try clear c11b2
                      try clear c12
                      try clear p2
                      try clear p6
                      obtain ⟨x8_2, rfl, HA, HK2, ⟨m2, rfl⟩⟩ := hrel
                      cases gk with
                      | zero => exact absurd HA.out (by simp [mancipleref9_parts.l0])
                      | succ k2 =>
                        have H := HA.out
                        clear HA
                        simp only [mancipleref9_parts.l0] at H
                        by_cases c13 : x8_2 < (y274.size : Int)
                        · rw [if_pos c13] at H
                          have c13b0 : decide (x8_2 < (y274.size : Int)) = true := decide_eq_true c13
                          clear c13
                          by_cases c14 : 0 ≤ x8_2
                          · rw [if_pos c14] at H
                            have c14b0 : decide (0 ≤ x8_2) = true := decide_eq_true c14
                            clear c14
                            replace H := Option.bind_eq_some_iff.mp H
                            obtain ⟨t276, A160, H⟩ := H
                            replace H : (if t276 = true then (mancipleref9_parts.l0 k2 y275 y274 (wrap64 (x8_2 + 1))) else (some ((⟨#[]⟩ : ByteArray), (⟨#[]⟩ : ByteArray), (⟨#[]⟩ : ByteArray), false))) = some (r1, r2, r3, r4) := H
                            have A16 := Aside0.mk A160
                            clear A160
                            by_cases c17 : t276 = true
                            · subst c17
                              have H1 : (mancipleref9_parts.l0 k2 y275 y274 (wrap64 (x8_2 + 1))) = some (r1, r2, r3, r4) := by rw [if_pos rfl] at H; exact H
                              clear H
                              have H := H1
                              clear H1
                              have H' := Aside0.mk H
                              clear H
                              have p15 : 0 ≤ (x8_2 : Int) := of_decide_eq_true (by first | (with_reducible assumption) | assumption)
                              have q15 : x8_2 < (y274.size : Int) := of_decide_eq_true (by first | (with_reducible assumption) | assumption)
                              have hx15 := bt_at y274 x8_2
                              replace p15 := eq_true p15
                              replace q15 := eq_true q15
                              go_wp2_with (first | ((with_reducible refine gate_callee (f := 41) rfl ?_); refine goesL_ (some 38) rfl rfl Tryd.func41 (by kernel_rfl) rfl #[.int .u8 (bt y274 x8_2)] rfl (by (try simp only [List.map_toArray, List.map_cons, List.map_nil]); first | done | rfl | (simp only [List.length_drop, List.length_take]; rfl)) ?_; (with_reducible refine (mancipleref9_digit.calls (bt y274 x8_2) true _ A16.out).mono ?_); rintro e w' ⟨rfl, ⟨nd, rfl⟩⟩; refine ⟨_, rfl, ?_⟩))
                              go_roundg k2
                              case measure => have := HJ9.out; have := HK2.out; omega
                              case rel => exact ⟨(wrap64 (x8_2 + 1)), (by first | rfl | (simp; done) | (simp [*]; done)), H', ⟨by have := HJ9.out; have := HK2.out; omega⟩, by repeat (first | exact Drawn0.refl _ | apply Drawn0.step)⟩
                            · replace c17 := Bool.eq_false_iff.mpr c17
                              subst c17
                              have H1 : (some ((⟨#[]⟩ : ByteArray), (⟨#[]⟩ : ByteArray), (⟨#[]⟩ : ByteArray), false)) = some (r1, r2, r3, r4) := by rw [if_neg (show ¬ (false = true) by decide)] at H; exact H
                              clear H
                              have H := H1
                              clear H1
                              simp only [Option.some.injEq, Prod.mk.injEq] at H
                              obtain ⟨rfl, rfl, rfl, rfl⟩ := H
                              have p15 : 0 ≤ (x8_2 : Int) := of_decide_eq_true (by first | (with_reducible assumption) | assumption)
                              have q15 : x8_2 < (y274.size : Int) := of_decide_eq_true (by first | (with_reducible assumption) | assumption)
                              have hx15 := bt_at y274 x8_2
                              replace p15 := eq_true p15
                              replace q15 := eq_true q15
                              go_wp2_with (first | ((with_reducible refine gate_callee (f := 41) rfl ?_); refine goesL_ (some 38) rfl rfl Tryd.func41 (by kernel_rfl) rfl #[.int .u8 (bt y274 x8_2)] rfl (by (try simp only [List.map_toArray, List.map_cons, List.map_nil]); first | done | rfl | (simp only [List.length_drop, List.length_take]; rfl)) ?_; (with_reducible refine (mancipleref9_digit.calls (bt y274 x8_2) false _ A16.out).mono ?_); rintro e w' ⟨rfl, ⟨nd, rfl⟩⟩; refine ⟨_, rfl, ?_⟩))
                              refine bodyPost_ret (results_list (rs := [.tmp 2, .tmp 3, .tmp 4, .tmp 5]) rfl (by simp) (.tmp (.tmp (.tmp (.tmp .nil))))) rfl ?_
                              exact ⟨by first | rfl | (simp; done) | (simp only [← hji7] <;> (first | rfl | simp)) | (simp [*]; done), by repeat (first | exact Drawn0.refl _ | apply Drawn0.step)⟩
                          · rw [if_neg c14] at H
                            exact absurd H (by simp)
                        · rw [if_neg c13] at H
                          have c13b0 : decide (x8_2 < (y274.size : Int)) = false := decide_eq_false c13
                          clear c13
                          have H' := Aside0.mk H
                          clear H
                          go_wp2
                          go_meet
                          case rel => exact ⟨_, (y275), (y274), (by first | rfl | (simp; done) | (simp [*]; done)), (by first | rfl | (simp; done) | (simp [*]; done)), H', ⟨by have := HJ9.out; have := HK2.out; first | omega | exact Nat.le_refl _⟩, by repeat (first | exact Drawn0.refl _ | apply Drawn0.step)⟩
            · rw [if_neg c9] at H
              exact absurd H (by simp)
          · rw [if_neg c8] at H
            exact absurd H (by simp)
        · rw [if_neg c6] at H
          exact absurd H (by simp)
      · rw [if_neg c5] at H
        exact absurd H (by simp)
    · rw [if_neg c4] at H
      have c4b0 : decide (0 ≤ t273) = false := decide_eq_false c4
      clear c4
      (first | rw [c4b0] | (simp only [i64_w, i32_w]; rw [c4b0]) | rw [c4b2] | skip)
      have H' := Aside0.mk H
      clear H
      go_wp2
      go_meet
      case rel => exact ⟨_, (a0), ((⟨#[]⟩ : ByteArray)), (by first | rfl | (simp; done) | (simp [*]; done)), (by first | rfl | (simp; done) | (simp [*]; done)), H', ⟨by first | omega | exact Nat.le_refl _⟩, by repeat (first | exact Drawn0.refl _ | apply Drawn0.step)⟩
  case rest =>
    clear HC3
    try clear c1
    try clear p1
    try clear q1
    try clear hx1
    try clear c2
    try clear p2
    try clear c4
    try clear c4b0
    try clear c4b2
    try clear c5
    try clear c5b0
    try clear c5b1
    try clear c6
    try clear c6b0
    try clear c6b1
    try clear p6
    try clear c8
    try clear c8b0
    try clear c8b1
    try clear c9
    try clear c9b0
    try clear c9b1
    try clear c11
    try clear c11b0
    try clear c11b1
    try clear c11b2
    try clear c12
    try clear c13
    try clear c13b0
    try clear c14
    try clear c14b0
    try clear p15
    try clear q15
    try clear hx15
    try clear c17
    try clear p15
    try clear p2
    try clear p6
    try clear q15
    obtain ⟨kq, x0_2, x6_2, rfl, rfl, HA, HJ2, ⟨mc2, rfl⟩⟩ := hcut
    cases kq with
    | zero => exact absurd HA.out (by simp [mancipleref9_parts.j2])
    | succ kj2 =>
      have H := HA.out
      clear HA
      simp only [mancipleref9_parts.j2] at H
      replace H := Option.bind_eq_some_iff.mp H
      obtain ⟨t277, A180, H⟩ := H
      replace H : (if t277 ≥ 0 then (if 0 ≤ (wrap64 (t277 + 1)) then (if (wrap64 (t277 + 1)) ≤ (x0_2.size : Int) then ((some (x0_2.extract ((wrap64 (t277 + 1)) : Int).toNat x0_2.size : ByteArray)).bind fun y278 => (if 0 ≤ t277 then (if t277 ≤ (x0_2.size : Int) then ((some (x0_2.extract 0 (t277 : Int).toNat : ByteArray)).bind fun y279 => ((mancipleref9_part.f kj2 y278).bind fun t280 => (if t280 = true then ((mancipleref9_part.f kj2 y279).bind fun t281 => (some (x6_2, y279, y278, t281))) else (some ((⟨#[]⟩ : ByteArray), (⟨#[]⟩ : ByteArray), (⟨#[]⟩ : ByteArray), false))))) else (none)) else (none))) else (none)) else (none)) else ((mancipleref9_part.f kj2 x0_2).bind fun t282 => (some (x6_2, x0_2, (⟨#[]⟩ : ByteArray), t282)))) = some (r1, r2, r3, r4) := H
      have A18 := Aside0.mk A180
      clear A180
      by_cases c19 : t277 ≥ 0
      · rw [if_pos c19] at H
        have c19b0 : decide (0 ≤ t277) = true := decide_eq_true c19
        clear c19
        obtain ⟨ji20, hji20⟩ : ∃ j_ : Int, (wrap64 (t277 + 1)) = j_ := ⟨_, rfl⟩
        replace H : (if 0 ≤ (ji20) then (if (ji20) ≤ (x0_2.size : Int) then ((some (x0_2.extract ((ji20) : Int).toNat x0_2.size : ByteArray)).bind fun y278 => (if 0 ≤ t277 then (if t277 ≤ (x0_2.size : Int) then ((some (x0_2.extract 0 (t277 : Int).toNat : ByteArray)).bind fun y279 => ((mancipleref9_part.f kj2 y278).bind fun t280 => (if t280 = true then ((mancipleref9_part.f kj2 y279).bind fun t281 => (some (x6_2, y279, y278, t281))) else (some ((⟨#[]⟩ : ByteArray), (⟨#[]⟩ : ByteArray), (⟨#[]⟩ : ByteArray), false))))) else (none)) else (none))) else (none)) else (none)) = some (r1, r2, r3, r4) := by first | (rw [hji20] at H; exact H) | (simp only [hji20] at H ⊢; exact H)
        (try rw [hji20] at A18)
        have hji20w : (IntKind.i64.wrap (t277 + 1)) = ji20 := (i64_w _).trans hji20
        by_cases c21 : 0 ≤ (ji20)
        · rw [if_pos c21] at H
          have c21b0 := eq_true c21
          have c21b1 : decide (0 ≤ (ji20)) = true := decide_eq_true c21
          clear c21
          by_cases c22 : (ji20) ≤ (x0_2.size : Int)
          · rw [if_pos c22] at H
            have c22b0 := eq_true c22
            have c22b1 : decide ((ji20) ≤ (x0_2.size : Int)) = true := decide_eq_true c22
            clear c22
            obtain ⟨y278, hy278⟩ : ∃ y_ : ByteArray, y_ = (x0_2.extract ((ji20) : Int).toNat x0_2.size) := ⟨_, rfl⟩
            replace H : (if 0 ≤ t277 then (if t277 ≤ (x0_2.size : Int) then ((some (x0_2.extract 0 (t277 : Int).toNat : ByteArray)).bind fun y279 => ((mancipleref9_part.f kj2 y278).bind fun t280 => (if t280 = true then ((mancipleref9_part.f kj2 y279).bind fun t281 => (some (x6_2, y279, y278, t281))) else (some ((⟨#[]⟩ : ByteArray), (⟨#[]⟩ : ByteArray), (⟨#[]⟩ : ByteArray), false))))) else (none)) else (none)) = some (r1, r2, r3, r4) := by first | (rw [hy278]; with_reducible exact H) | (have H2_ := (Option.bind_some _ _).symm.trans H; rw [hy278]; with_reducible exact H2_) | (have H2_ := (Option.bind_some _ _).symm.trans H; with_reducible exact H2_) | with_reducible exact H | (rw [hy278]; exact H) | exact H
            have Ny278 := Aside0.mk hy278
            clear hy278
            have Ey278 : x0_2.extract ((ji20) : Int).toNat x0_2.size = y278 := Ny278.out.symm
            by_cases c23 : 0 ≤ t277
            · rw [if_pos c23] at H
              have c23b0 := eq_true c23
              have c23b1 : decide (0 ≤ t277) = true := decide_eq_true c23
              clear c23
              by_cases c24 : t277 ≤ (x0_2.size : Int)
              · rw [if_pos c24] at H
                have c24b0 := eq_true c24
                have c24b1 : decide (t277 ≤ (x0_2.size : Int)) = true := decide_eq_true c24
                clear c24
                obtain ⟨y279, hy279⟩ : ∃ y_ : ByteArray, y_ = (x0_2.extract 0 (t277 : Int).toNat) := ⟨_, rfl⟩
                replace H : ((mancipleref9_part.f kj2 y278).bind fun t280 => (if t280 = true then ((mancipleref9_part.f kj2 y279).bind fun t281 => (some (x6_2, y279, y278, t281))) else (some ((⟨#[]⟩ : ByteArray), (⟨#[]⟩ : ByteArray), (⟨#[]⟩ : ByteArray), false)))) = some (r1, r2, r3, r4) := by first | (rw [hy279]; with_reducible exact H) | (have H2_ := (Option.bind_some _ _).symm.trans H; rw [hy279]; with_reducible exact H2_) | (have H2_ := (Option.bind_some _ _).symm.trans H; with_reducible exact H2_) | with_reducible exact H | (rw [hy279]; exact H) | exact H
                have Ny279 := Aside0.mk hy279
                clear hy279
                have Ey279 : x0_2.extract 0 (t277 : Int).toNat = y279 := Ny279.out.symm
                replace H := Option.bind_eq_some_iff.mp H
                obtain ⟨t280, A250, H⟩ := H
                replace H : (if t280 = true then ((mancipleref9_part.f kj2 y279).bind fun t281 => (some (x6_2, y279, y278, t281))) else (some ((⟨#[]⟩ : ByteArray), (⟨#[]⟩ : ByteArray), (⟨#[]⟩ : ByteArray), false))) = some (r1, r2, r3, r4) := H
                have A25 := Aside0.mk A250
                clear A250
                by_cases c26 : t280 = true
                · subst c26
                  have H1 : ((mancipleref9_part.f kj2 y279).bind fun t281 => (some (x6_2, y279, y278, t281))) = some (r1, r2, r3, r4) := by rw [if_pos rfl] at H; exact H
                  clear H
                  have H := H1
                  clear H1
                  replace H := Option.bind_eq_some_iff.mp H
                  obtain ⟨t281, A270, H⟩ := H
                  replace H : (some (x6_2, y279, y278, t281)) = some (r1, r2, r3, r4) := H
                  have A27 := Aside0.mk A270
                  clear A270
                  simp only [Option.some.injEq, Prod.mk.injEq] at H
                  obtain ⟨rfl, rfl, rfl, rfl⟩ := H
                  go_wp2_with (first | ((with_reducible refine gate_callee (f := 40) rfl ?_); refine goesL_ (some 41) rfl rfl Tryd.func40 (by kernel_rfl) rfl #[.string x0_2, .int .u8 45] rfl (by (try simp only [List.map_toArray, List.map_cons, List.map_nil]); first | done | rfl | (simp only [List.length_drop, List.length_take]; rfl)) ?_; (with_reducible refine (mancipleref9_place.calls kj2 x0_2 45 t277 _ A18.out).mono ?_); rintro e w' ⟨rfl, ⟨nd, rfl⟩⟩; refine ⟨_, rfl, ?_⟩) | ((with_reducible refine gate_callee (f := 42) rfl ?_); refine goesL_ (some 52) rfl rfl Tryd.func42 (by kernel_rfl) rfl #[.string y278] rfl (by (try simp only [List.map_toArray, List.map_cons, List.map_nil]); first | done | rfl | (simp only [List.length_drop, List.length_take]; rfl)) ?_; (with_reducible refine (mancipleref9_part.calls kj2 y278 true _ A25.out).mono ?_); rintro e w' ⟨rfl, ⟨nd, rfl⟩⟩; refine ⟨_, rfl, ?_⟩) | ((with_reducible refine gate_callee (f := 42) rfl ?_); refine goesL_ (some 58) rfl rfl Tryd.func42 (by kernel_rfl) rfl #[.string y279] rfl (by (try simp only [List.map_toArray, List.map_cons, List.map_nil]); first | done | rfl | (simp only [List.length_drop, List.length_take]; rfl)) ?_; (with_reducible refine (mancipleref9_part.calls kj2 y279 t281 _ A27.out).mono ?_); rintro e w' ⟨rfl, ⟨nd, rfl⟩⟩; refine ⟨_, rfl, ?_⟩))
                  refine bodyPost_ret (results_list (rs := [.tmp 2, .tmp 3, .tmp 4, .tmp 5]) rfl (by simp) (.tmp (.tmp (.tmp (.tmp .nil))))) rfl ?_
                  exact ⟨by first | rfl | (simp; done) | (simp only [← hji20] <;> (first | rfl | simp)) | (simp [*]; done), by repeat (first | exact Drawn0.refl _ | apply Drawn0.step)⟩
                · replace c26 := Bool.eq_false_iff.mpr c26
                  subst c26
                  have H1 : (some ((⟨#[]⟩ : ByteArray), (⟨#[]⟩ : ByteArray), (⟨#[]⟩ : ByteArray), false)) = some (r1, r2, r3, r4) := by rw [if_neg (show ¬ (false = true) by decide)] at H; exact H
                  clear H
                  have H := H1
                  clear H1
                  simp only [Option.some.injEq, Prod.mk.injEq] at H
                  obtain ⟨rfl, rfl, rfl, rfl⟩ := H
                  go_wp2_with (first | ((with_reducible refine gate_callee (f := 40) rfl ?_); refine goesL_ (some 41) rfl rfl Tryd.func40 (by kernel_rfl) rfl #[.string x0_2, .int .u8 45] rfl (by (try simp only [List.map_toArray, List.map_cons, List.map_nil]); first | done | rfl | (simp only [List.length_drop, List.length_take]; rfl)) ?_; (with_reducible refine (mancipleref9_place.calls kj2 x0_2 45 t277 _ A18.out).mono ?_); rintro e w' ⟨rfl, ⟨nd, rfl⟩⟩; refine ⟨_, rfl, ?_⟩) | ((with_reducible refine gate_callee (f := 42) rfl ?_); refine goesL_ (some 52) rfl rfl Tryd.func42 (by kernel_rfl) rfl #[.string y278] rfl (by (try simp only [List.map_toArray, List.map_cons, List.map_nil]); first | done | rfl | (simp only [List.length_drop, List.length_take]; rfl)) ?_; (with_reducible refine (mancipleref9_part.calls kj2 y278 false _ A25.out).mono ?_); rintro e w' ⟨rfl, ⟨nd, rfl⟩⟩; refine ⟨_, rfl, ?_⟩))
                  refine bodyPost_ret (results_list (rs := [.tmp 2, .tmp 3, .tmp 4, .tmp 5]) rfl (by simp) (.tmp (.tmp (.tmp (.tmp .nil))))) rfl ?_
                  exact ⟨by first | rfl | (simp; done) | (simp only [← hji20] <;> (first | rfl | simp)) | (simp [*]; done), by repeat (first | exact Drawn0.refl _ | apply Drawn0.step)⟩
              · rw [if_neg c24] at H
                exact absurd H (by simp)
            · rw [if_neg c23] at H
              exact absurd H (by simp)
          · rw [if_neg c22] at H
            exact absurd H (by simp)
        · rw [if_neg c21] at H
          exact absurd H (by simp)
      · rw [if_neg c19] at H
        have c19b0 : decide (0 ≤ t277) = false := decide_eq_false c19
        clear c19
        replace H := Option.bind_eq_some_iff.mp H
        obtain ⟨t282, A280, H⟩ := H
        replace H : (some (x6_2, x0_2, (⟨#[]⟩ : ByteArray), t282)) = some (r1, r2, r3, r4) := H
        have A28 := Aside0.mk A280
        clear A280
        simp only [Option.some.injEq, Prod.mk.injEq] at H
        obtain ⟨rfl, rfl, rfl, rfl⟩ := H
        go_wp2_with (first | ((with_reducible refine gate_callee (f := 40) rfl ?_); refine goesL_ (some 41) rfl rfl Tryd.func40 (by kernel_rfl) rfl #[.string x0_2, .int .u8 45] rfl (by (try simp only [List.map_toArray, List.map_cons, List.map_nil]); first | done | rfl | (simp only [List.length_drop, List.length_take]; rfl)) ?_; (with_reducible refine (mancipleref9_place.calls kj2 x0_2 45 t277 _ A18.out).mono ?_); rintro e w' ⟨rfl, ⟨nd, rfl⟩⟩; refine ⟨_, rfl, ?_⟩) | ((with_reducible refine gate_callee (f := 42) rfl ?_); refine goesL_ (some 58) rfl rfl Tryd.func42 (by kernel_rfl) rfl #[.string x0_2] rfl (by (try simp only [List.map_toArray, List.map_cons, List.map_nil]); first | done | rfl | (simp only [List.length_drop, List.length_take]; rfl)) ?_; (with_reducible refine (mancipleref9_part.calls kj2 x0_2 t282 _ A28.out).mono ?_); rintro e w' ⟨rfl, ⟨nd, rfl⟩⟩; refine ⟨_, rfl, ?_⟩))
        refine bodyPost_ret (results_list (rs := [.tmp 2, .tmp 3, .tmp 4, .tmp 5]) rfl (by simp) (.tmp (.tmp (.tmp (.tmp .nil))))) rfl ?_
        exact ⟨by first | rfl | (simp; done) | (simp [*]; done), by repeat (first | exact Drawn0.refl _ | apply Drawn0.step)⟩
end Go.Proofs.YtneigokookpngaaDoor.Q
namespace Go.Proofs.YtneigokookpngaaDoor.Q
open Go.RowKit Go.Proofs.YtneigokookpngaaDoorW.PrintWords Go.Proofs.YtneigokookpngaaDoorW.PrintLast Go.Proofs.YtneigokookpngaaDoorW.PrintMore
attribute [local go_sem] max2_int min2_int max_two min_two max_three min_three max_four min_four   -- for this text's walks alone
set_option linter.unusedVariables false
set_option linter.unusedSimpArgs false
/-! ### mancipleref9_CheckVer: function 12 -/
def mancipleref9_CheckVer.f (k : Nat) (a0 : ByteArray) : Option (Int) := if (a0.size : Int) > 40 then (some 4) else ((mancipleref9_parts.f k a0).bind fun bt283 => (if bt283.2.2.2 = true then (some 0) else (some 5)))
theorem mancipleref9_CheckVer.mono : ∀ a0 k, LeO (mancipleref9_CheckVer.f k a0) (mancipleref9_CheckVer.f (k + 1) a0) := by
  intro a0 k
  unfold mancipleref9_CheckVer.f
  repeat' first
      | (with_reducible exact mancipleref9_parts.mono _ _)
      | (with_reducible exact LeO.refl _)
      | (with_reducible exact LeO.none _)
      | (with_reducible refine LeO.ite ?_ ?_)
      | (with_reducible refine LeO.bind ?_ (fun _ => ?_))
      | exact mancipleref9_parts.mono _ _
      | exact LeO.none _
      | refine LeO.ite ?_ ?_
      | refine LeO.bind ?_ (fun _ => ?_)
set_option maxHeartbeats 8000000 in
set_option maxRecDepth 100000 in
theorem mancipleref9_CheckVer.calls (k : Nat) (a0 : ByteArray) (r : Int) (w : World) (h : mancipleref9_CheckVer.f k a0 = some r) :
    Calls Tryd.prog 12 #[.string a0] w fun e w' => e = .returned (.int .i64 r) ∧ Drawn0 w w' := by
  have H : (if (a0.size : Int) > 40 then (some 4) else ((mancipleref9_parts.f k a0).bind fun bt283 => (if bt283.2.2.2 = true then (some 0) else (some 5)))) = some r := h
  clear h
  by_cases c2 : (a0.size : Int) > 40
  · rw [if_pos c2] at H
    have c2b0 : decide (40 < (a0.size : Int)) = true := decide_eq_true c2
    have c2b1 : decide (40 < a0.size) = true := decide_eq_true (by omega)
    clear c2
    obtain rfl := Option.some.inj H
    go_enter Tryd.func12, Tryd.ntmps12
    go_wp2
    go_ret
    exact ⟨by first | rfl | (simp; done) | (simp [*]; done), by repeat (first | exact Drawn0.refl _ | apply Drawn0.step)⟩
  · rw [if_neg c2] at H
    have c2b0 : decide (40 < (a0.size : Int)) = false := decide_eq_false c2
    have c2b1 : decide (40 < a0.size) = false := decide_eq_false (by omega)
    clear c2
    replace H := Option.bind_eq_some_iff.mp H
    obtain ⟨⟨t283, t284, t285, t286⟩, A30, H⟩ := H
    replace H : (if t286 = true then (some 0) else (some 5)) = some r := H
    have A3 := Aside0.mk A30
    clear A30
    by_cases c4 : t286 = true
    · subst c4
      have H1 : (some 0) = some r := by rw [if_pos rfl] at H; exact H
      clear H
      have H := H1
      clear H1
      obtain rfl := Option.some.inj H
      go_enter Tryd.func12, Tryd.ntmps12
      go_wp2_with (first | ((with_reducible refine gate_callee (f := 22) rfl ?_); refine goesL_ (some 12) rfl rfl Tryd.func22 (by kernel_rfl) rfl #[.string a0] rfl (by (try simp only [List.map_toArray, List.map_cons, List.map_nil]); first | done | rfl | (simp only [List.length_drop, List.length_take]; rfl)) ?_; (with_reducible refine (mancipleref9_parts.calls k a0 t283 t284 t285 true _ A3.out).mono ?_); rintro e w' ⟨rfl, ⟨nd, rfl⟩⟩; refine ⟨_, rfl, ?_⟩))
      go_ret
      exact ⟨by first | rfl | (simp; done) | (simp [*]; done), by repeat (first | exact Drawn0.refl _ | apply Drawn0.step)⟩
    · replace c4 := Bool.eq_false_iff.mpr c4
      subst c4
      have H1 : (some 5) = some r := by rw [if_neg (show ¬ (false = true) by decide)] at H; exact H
      clear H
      have H := H1
      clear H1
      obtain rfl := Option.some.inj H
      go_enter Tryd.func12, Tryd.ntmps12
      go_wp2_with (first | ((with_reducible refine gate_callee (f := 22) rfl ?_); refine goesL_ (some 12) rfl rfl Tryd.func22 (by kernel_rfl) rfl #[.string a0] rfl (by (try simp only [List.map_toArray, List.map_cons, List.map_nil]); first | done | rfl | (simp only [List.length_drop, List.length_take]; rfl)) ?_; (with_reducible refine (mancipleref9_parts.calls k a0 t283 t284 t285 false _ A3.out).mono ?_); rintro e w' ⟨rfl, ⟨nd, rfl⟩⟩; refine ⟨_, rfl, ?_⟩))
      go_ret
      exact ⟨by first | rfl | (simp; done) | (simp [*]; done), by repeat (first | exact Drawn0.refl _ | apply Drawn0.step)⟩
end Go.Proofs.YtneigokookpngaaDoor.Q
namespace Go.Proofs.YtneigokookpngaaDoor.Q
open Go.RowKit Go.Proofs.YtneigokookpngaaDoorW.PrintWords Go.Proofs.YtneigokookpngaaDoorW.PrintLast Go.Proofs.YtneigokookpngaaDoorW.PrintMore
attribute [local go_sem] max2_int min2_int max_two min_two max_three min_three max_four min_four   -- for this text's walks alone
set_option linter.unusedVariables false
set_option linter.unusedSimpArgs false
/-! ### manciplelaw1_VerRows: function 5 -/
def manciplelaw1_VerRows.j0 : Nat → ByteArray → ByteArray → ByteArray → Bool → Option (Bool)
  | 0, _, _, _, _ => none
  | k + 1, x0, x1, x2, x21 => if x21 = true then (some true) else ((ver_Compare.f k x0 x1).bind fun t374 => (if t374 > 0 then (some true) else ((ver_Compare.f k x1 x2).bind fun t375 => (if t375 > 0 then (some true) else ((ver_Compare.f k x0 x2).bind fun t376 => (some (decide (t376 ≤ 0))))))))
def manciplelaw1_VerRows.f (k : Nat) (a0 : ByteArray) (a1 : ByteArray) (a2 : ByteArray) : Option (Bool) := (manciplelaw1_known.f k).bind fun t370 => (if t370 = true then ((mancipleref9_CheckVer.f k a0).bind fun t371 => (if t371 = 0 then ((mancipleref9_CheckVer.f k a1).bind fun t372 => (if t372 = 0 then ((mancipleref9_CheckVer.f k a2).bind fun t373 => (manciplelaw1_VerRows.j0 k a0 a1 a2 (t373 != 0))) else (manciplelaw1_VerRows.j0 k a0 a1 a2 true))) else (manciplelaw1_VerRows.j0 k a0 a1 a2 true))) else (some false))
theorem manciplelaw1_VerRows.mono_l : ∀ k, (∀ y0 y1 y2 y3, LeO (manciplelaw1_VerRows.j0 k y0 y1 y2 y3) (manciplelaw1_VerRows.j0 (k + 1) y0 y1 y2 y3))
  | 0 => fun _ _ _ _ r h => by simp [manciplelaw1_VerRows.j0] at h
  | k + 1 => by
    have ih0 := manciplelaw1_VerRows.mono_l k
    · intro y0 y1 y2 y3
      unfold manciplelaw1_VerRows.j0
      repeat' first
      | (with_reducible exact ih0 _ _ _ _)
      | (with_reducible exact manciplelaw1_known.mono _)
      | (with_reducible exact mancipleref9_CheckVer.mono _ _)
      | (with_reducible exact ver_Compare.mono _ _ _)
      | (with_reducible exact LeO.refl _)
      | (with_reducible exact LeO.none _)
      | (with_reducible refine LeO.ite ?_ ?_)
      | (with_reducible refine LeO.bind ?_ (fun _ => ?_))
      | exact ih0 _ _ _ _
      | exact manciplelaw1_known.mono _
      | exact mancipleref9_CheckVer.mono _ _
      | exact ver_Compare.mono _ _ _
      | exact LeO.none _
      | refine LeO.ite ?_ ?_
      | refine LeO.bind ?_ (fun _ => ?_)
theorem manciplelaw1_VerRows.mono : ∀ a0 a1 a2 k, LeO (manciplelaw1_VerRows.f k a0 a1 a2) (manciplelaw1_VerRows.f (k + 1) a0 a1 a2) := by
  intro a0 a1 a2 k
  have ih0 := manciplelaw1_VerRows.mono_l k
  unfold manciplelaw1_VerRows.f
  repeat' first
      | (with_reducible exact ih0 _ _ _ _)
      | (with_reducible exact manciplelaw1_known.mono _)
      | (with_reducible exact mancipleref9_CheckVer.mono _ _)
      | (with_reducible exact ver_Compare.mono _ _ _)
      | (with_reducible exact LeO.refl _)
      | (with_reducible exact LeO.none _)
      | (with_reducible refine LeO.ite ?_ ?_)
      | (with_reducible refine LeO.bind ?_ (fun _ => ?_))
      | exact ih0 _ _ _ _
      | exact manciplelaw1_known.mono _
      | exact mancipleref9_CheckVer.mono _ _
      | exact ver_Compare.mono _ _ _
      | exact LeO.none _
      | refine LeO.ite ?_ ?_
      | refine LeO.bind ?_ (fun _ => ?_)
set_option maxHeartbeats 8000000 in
set_option maxRecDepth 100000 in
theorem manciplelaw1_VerRows.calls (k : Nat) (a0 : ByteArray) (a1 : ByteArray) (a2 : ByteArray) (r : Bool) (w : World) (h : manciplelaw1_VerRows.f k a0 a1 a2 = some r) :
    Calls Tryd.prog 5 #[.string a0, .string a1, .string a2] w fun e w' => e = .returned (.bool r) ∧ Below w.heap.size w w' := by
  have HB := Aside0.mk (Below.refl w.heap.size w)
  have H : ((manciplelaw1_known.f k).bind fun t370 => (if t370 = true then ((mancipleref9_CheckVer.f k a0).bind fun t371 => (if t371 = 0 then ((mancipleref9_CheckVer.f k a1).bind fun t372 => (if t372 = 0 then ((mancipleref9_CheckVer.f k a2).bind fun t373 => (manciplelaw1_VerRows.j0 k a0 a1 a2 (t373 != 0))) else (manciplelaw1_VerRows.j0 k a0 a1 a2 true))) else (manciplelaw1_VerRows.j0 k a0 a1 a2 true))) else (some false))) = some r := h
  clear h
  replace H := Option.bind_eq_some_iff.mp H
  obtain ⟨t370, A40, H⟩ := H
  replace H : (if t370 = true then ((mancipleref9_CheckVer.f k a0).bind fun t371 => (if t371 = 0 then ((mancipleref9_CheckVer.f k a1).bind fun t372 => (if t372 = 0 then ((mancipleref9_CheckVer.f k a2).bind fun t373 => (manciplelaw1_VerRows.j0 k a0 a1 a2 (t373 != 0))) else (manciplelaw1_VerRows.j0 k a0 a1 a2 true))) else (manciplelaw1_VerRows.j0 k a0 a1 a2 true))) else (some false)) = some r := H
  have A4 := Aside0.mk A40
  clear A40
  by_cases c5 : t370 = true
  · subst c5
    have H1 : ((mancipleref9_CheckVer.f k a0).bind fun t371 => (if t371 = 0 then ((mancipleref9_CheckVer.f k a1).bind fun t372 => (if t372 = 0 then ((mancipleref9_CheckVer.f k a2).bind fun t373 => (manciplelaw1_VerRows.j0 k a0 a1 a2 (t373 != 0))) else (manciplelaw1_VerRows.j0 k a0 a1 a2 true))) else (manciplelaw1_VerRows.j0 k a0 a1 a2 true))) = some r := by rw [if_pos rfl] at H; exact H
    clear H
    have H := H1
    clear H1
    have HC6 := Aside0.mk H
    clear H
    go_enter Tryd.func5, Tryd.ntmps5
    go_upto_region 3 with (first | ((with_reducible refine gate_callee (f := 8) rfl ?_); refine goesL_ (some 7) rfl rfl Tryd.func8 (by kernel_rfl) rfl #[] rfl (by (try simp only [List.map_toArray, List.map_cons, List.map_nil]); first | done | rfl | (simp only [List.length_drop, List.length_take]; rfl)) ?_; (with_reducible refine (manciplelaw1_known.calls k  true _ A4.out).mono ?_); rintro e w7 ⟨rfl, hb⟩; refine ⟨_, rfl, ?_⟩; have n0_ := Aside0.mk (below_step (by repeat (first | (with_reducible first | exact HB.out | apply below_alloc | apply pw_below_drewN | apply below_drew1) | exact HB.out)) hb); clear HB; have HB := n0_; clear n0_; (try clear hb); (try clear hb2); (try clear hk); (try clear hi)))
    (try simp only [Act.put, List.setIfInBounds_toArray, List.set_cons_zero, List.set_cons_succ])
    go_cut [21] (fun v21 wc => ∃ (kq : Nat) (x21_5 : Bool), v21 = .bool x21_5 ∧ Aside0 (manciplelaw1_VerRows.j0 kq a0 a1 a2 x21_5 = some r) ∧ Aside0 (kq ≤ k) ∧ Aside0 (Below w.heap.size w wc))
    case first =>
      have H := HC6.out
      clear HC6
      replace H := Option.bind_eq_some_iff.mp H
      obtain ⟨t371, A80, H⟩ := H
      replace H : (if t371 = 0 then ((mancipleref9_CheckVer.f k a1).bind fun t372 => (if t372 = 0 then ((mancipleref9_CheckVer.f k a2).bind fun t373 => (manciplelaw1_VerRows.j0 k a0 a1 a2 (t373 != 0))) else (manciplelaw1_VerRows.j0 k a0 a1 a2 true))) else (manciplelaw1_VerRows.j0 k a0 a1 a2 true)) = some r := H
      have A8 := Aside0.mk A80
      clear A80
      by_cases c9 : t371 = 0
      · rw [if_pos c9] at H
        have c9b0 : (t371 == 0) = true := beq_iff_eq.mpr c9
        have c9b1 : (t371 != 0) = false := bne_eq_false_iff_eq.mpr c9
        clear c9
        (first | rw [c9b0] | (simp only [i64_w, i32_w]; rw [c9b0]) | rw [c9b2] | skip)
        replace H := Option.bind_eq_some_iff.mp H
        obtain ⟨t372, A100, H⟩ := H
        replace H : (if t372 = 0 then ((mancipleref9_CheckVer.f k a2).bind fun t373 => (manciplelaw1_VerRows.j0 k a0 a1 a2 (t373 != 0))) else (manciplelaw1_VerRows.j0 k a0 a1 a2 true)) = some r := H
        have A10 := Aside0.mk A100
        clear A100
        by_cases c11 : t372 = 0
        · rw [if_pos c11] at H
          have c11b0 : (t372 == 0) = true := beq_iff_eq.mpr c11
          have c11b1 : (t372 != 0) = false := bne_eq_false_iff_eq.mpr c11
          clear c11
          replace H := Option.bind_eq_some_iff.mp H
          obtain ⟨t373, A120, H⟩ := H
          replace H : (manciplelaw1_VerRows.j0 k a0 a1 a2 (t373 != 0)) = some r := H
          have A12 := Aside0.mk A120
          clear A120
          have H' := Aside0.mk H
          clear H
          go_wp2_with (first | ((with_reducible refine gate_callee (f := 12) rfl ?_); refine goesL_ (some 10) rfl rfl Tryd.func12 (by kernel_rfl) rfl #[.string a0] rfl (by (try simp only [List.map_toArray, List.map_cons, List.map_nil]); first | done | rfl | (simp only [List.length_drop, List.length_take]; rfl)) ?_; (with_reducible refine (mancipleref9_CheckVer.calls k a0 t371 _ A8.out).mono ?_); rintro e w' ⟨rfl, ⟨nd, rfl⟩⟩; refine ⟨_, rfl, ?_⟩) | (go_at_call 12; (with_reducible refine (mancipleref9_CheckVer.calls k a1 t372 _ A10.out).mono ?_); rintro e w' ⟨rfl, ⟨nd, rfl⟩⟩) | (go_at_call 12; (with_reducible refine (mancipleref9_CheckVer.calls k a2 t373 _ A12.out).mono ?_); rintro e w' ⟨rfl, ⟨nd, rfl⟩⟩))
          go_meet
          case rel => exact ⟨_, ((t373 != 0)), (by first | rfl | (simp; done) | (simp [*]; done)), H', ⟨by first | omega | exact Nat.le_refl _⟩, ⟨by repeat (first | (with_reducible first | exact HB.out | apply below_alloc | apply pw_below_drewN | apply below_drew1) | exact HB.out)⟩⟩
        · rw [if_neg c11] at H
          have c11b0 : (t372 == 0) = false := beq_eq_false_iff_ne.mpr c11
          have c11b1 : (t372 != 0) = true := bne_iff_ne.mpr c11
          have H' := Aside0.mk H
          clear H
          go_wp2_with (first | ((with_reducible refine gate_callee (f := 12) rfl ?_); refine goesL_ (some 10) rfl rfl Tryd.func12 (by kernel_rfl) rfl #[.string a0] rfl (by (try simp only [List.map_toArray, List.map_cons, List.map_nil]); first | done | rfl | (simp only [List.length_drop, List.length_take]; rfl)) ?_; (with_reducible refine (mancipleref9_CheckVer.calls k a0 t371 _ A8.out).mono ?_); rintro e w' ⟨rfl, ⟨nd, rfl⟩⟩; refine ⟨_, rfl, ?_⟩) | (go_at_call 12; (with_reducible refine (mancipleref9_CheckVer.calls k a1 t372 _ A10.out).mono ?_); rintro e w' ⟨rfl, ⟨nd, rfl⟩⟩))
          go_meet
          case rel => exact ⟨_, (true), (by first | rfl | (simp; done) | (simp [*]; done)), H', ⟨by first | omega | exact Nat.le_refl _⟩, ⟨by repeat (first | (with_reducible first | exact HB.out | apply below_alloc | apply pw_below_drewN | apply below_drew1) | exact HB.out)⟩⟩
      · rw [if_neg c9] at H
        have c9b0 : (t371 == 0) = false := beq_eq_false_iff_ne.mpr c9
        have c9b1 : (t371 != 0) = true := bne_iff_ne.mpr c9
        (first | rw [c9b0] | (simp only [i64_w, i32_w]; rw [c9b0]) | rw [c9b2] | skip)
        have H' := Aside0.mk H
        clear H
        go_wp2_with (first | ((with_reducible refine gate_callee (f := 12) rfl ?_); refine goesL_ (some 10) rfl rfl Tryd.func12 (by kernel_rfl) rfl #[.string a0] rfl (by (try simp only [List.map_toArray, List.map_cons, List.map_nil]); first | done | rfl | (simp only [List.length_drop, List.length_take]; rfl)) ?_; (with_reducible refine (mancipleref9_CheckVer.calls k a0 t371 _ A8.out).mono ?_); rintro e w' ⟨rfl, ⟨nd, rfl⟩⟩; refine ⟨_, rfl, ?_⟩))
        go_meet
        case rel => exact ⟨_, (true), (by first | rfl | (simp; done) | (simp [*]; done)), H', ⟨by first | omega | exact Nat.le_refl _⟩, ⟨by repeat (first | (with_reducible first | exact HB.out | apply below_alloc | apply pw_below_drewN | apply below_drew1) | exact HB.out)⟩⟩
    case rest =>
      clear HC6
      try clear c1
      try clear p2
      try clear c5
      try clear c8
      try clear c9
      try clear c9b0
      try clear c9b1
      try clear c9b2
      try clear c11
      try clear c11b0
      try clear c11b1
      try clear c12
      obtain ⟨kq, x21_5, rfl, HA, HJ5, HB⟩ := hcut
      cases kq with
      | zero => exact absurd HA.out (by simp [manciplelaw1_VerRows.j0])
      | succ kj5 =>
        have H := HA.out
        clear HA
        simp only [manciplelaw1_VerRows.j0] at H
        by_cases c13 : x21_5 = true
        · subst c13
          have H1 : (some true) = some r := by rw [if_pos rfl] at H; exact H
          clear H
          have H := H1
          clear H1
          obtain rfl := Option.some.inj H
          go_wp2
          go_ret
          exact ⟨by first | rfl | (simp [errW_none, errW_some] <;> rfl) | (simp [*, errW_none, errW_some] <;> rfl), by repeat (first | (with_reducible first | exact HB.out | apply below_alloc | apply pw_below_drewN | apply below_drew1) | exact HB.out)⟩
        · replace c13 := Bool.eq_false_iff.mpr c13
          subst c13
          have H1 : ((ver_Compare.f kj5 a0 a1).bind fun t374 => (if t374 > 0 then (some true) else ((ver_Compare.f kj5 a1 a2).bind fun t375 => (if t375 > 0 then (some true) else ((ver_Compare.f kj5 a0 a2).bind fun t376 => (some (decide (t376 ≤ 0)))))))) = some r := by rw [if_neg (show ¬ (false = true) by decide)] at H; exact H
          clear H
          have H := H1
          clear H1
          replace H := Option.bind_eq_some_iff.mp H
          obtain ⟨t374, A140, H⟩ := H
          replace H : (if t374 > 0 then (some true) else ((ver_Compare.f kj5 a1 a2).bind fun t375 => (if t375 > 0 then (some true) else ((ver_Compare.f kj5 a0 a2).bind fun t376 => (some (decide (t376 ≤ 0))))))) = some r := H
          have A14 := Aside0.mk A140
          clear A140
          by_cases c15 : t374 > 0
          · rw [if_pos c15] at H
            have c15b0 : decide (0 < t374) = true := decide_eq_true c15
            clear c15
            obtain rfl := Option.some.inj H
            go_wp2_with (first | ((with_reducible refine gate_callee (f := 15) rfl ?_); refine goesL_ (some 24) rfl rfl Tryd.func15 (by kernel_rfl) rfl #[.string a0, .string a1] rfl (by (try simp only [List.map_toArray, List.map_cons, List.map_nil]); first | done | rfl | (simp only [List.length_drop, List.length_take]; rfl)) ?_; (with_reducible refine (ver_Compare.calls kj5 a0 a1 t374 _ A14.out).mono ?_); rintro e w16 ⟨rfl, hb⟩; refine ⟨_, rfl, ?_⟩; have n0_ := Aside0.mk (below_step (by repeat (first | (with_reducible first | exact HB.out | apply below_alloc | apply pw_below_drewN | apply below_drew1) | exact HB.out)) hb); clear HB; have HB := n0_; clear n0_; (try clear hb); (try clear hb2); (try clear hk); (try clear hi)))
            go_ret
            exact ⟨by first | rfl | (simp [errW_none, errW_some] <;> rfl) | (simp [*, errW_none, errW_some] <;> rfl), by repeat (first | (with_reducible first | exact HB.out | apply below_alloc | apply pw_below_drewN | apply below_drew1) | exact HB.out)⟩
          · rw [if_neg c15] at H
            have c15b0 : decide (0 < t374) = false := decide_eq_false c15
            clear c15
            replace H := Option.bind_eq_some_iff.mp H
            obtain ⟨t375, A170, H⟩ := H
            replace H : (if t375 > 0 then (some true) else ((ver_Compare.f kj5 a0 a2).bind fun t376 => (some (decide (t376 ≤ 0))))) = some r := H
            have A17 := Aside0.mk A170
            clear A170
            by_cases c18 : t375 > 0
            · rw [if_pos c18] at H
              have c18b0 : decide (0 < t375) = true := decide_eq_true c18
              clear c18
              obtain rfl := Option.some.inj H
              go_wp2_with (first | ((with_reducible refine gate_callee (f := 15) rfl ?_); refine goesL_ (some 24) rfl rfl Tryd.func15 (by kernel_rfl) rfl #[.string a0, .string a1] rfl (by (try simp only [List.map_toArray, List.map_cons, List.map_nil]); first | done | rfl | (simp only [List.length_drop, List.length_take]; rfl)) ?_; (with_reducible refine (ver_Compare.calls kj5 a0 a1 t374 _ A14.out).mono ?_); rintro e w19 ⟨rfl, hb⟩; refine ⟨_, rfl, ?_⟩; have n0_ := Aside0.mk (below_step (by repeat (first | (with_reducible first | exact HB.out | apply below_alloc | apply pw_below_drewN | apply below_drew1) | exact HB.out)) hb); clear HB; have HB := n0_; clear n0_; (try clear hb); (try clear hb2); (try clear hk); (try clear hi)) | (go_at_call 15; (with_reducible refine (ver_Compare.calls kj5 a1 a2 t375 _ A17.out).mono ?_); rintro e w20 ⟨rfl, hb⟩; have n0_ := Aside0.mk (below_step (by repeat (first | (with_reducible first | exact HB.out | apply below_alloc | apply pw_below_drewN | apply below_drew1) | exact HB.out)) hb); clear HB; have HB := n0_; clear n0_; (try clear hb); (try clear hb2); (try clear hk); (try clear hi)))
              go_ret
              exact ⟨by first | rfl | (simp [errW_none, errW_some] <;> rfl) | (simp [*, errW_none, errW_some] <;> rfl), by repeat (first | (with_reducible first | exact HB.out | apply below_alloc | apply pw_below_drewN | apply below_drew1) | exact HB.out)⟩
            · rw [if_neg c18] at H
              have c18b0 : decide (0 < t375) = false := decide_eq_false c18
              clear c18
              replace H := Option.bind_eq_some_iff.mp H
              obtain ⟨t376, A210, H⟩ := H
              replace H : (some (decide (t376 ≤ 0))) = some r := H
              have A21 := Aside0.mk A210
              clear A210
              obtain rfl := Option.some.inj H
              go_wp2_with (first | ((with_reducible refine gate_callee (f := 15) rfl ?_); refine goesL_ (some 24) rfl rfl Tryd.func15 (by kernel_rfl) rfl #[.string a0, .string a1] rfl (by (try simp only [List.map_toArray, List.map_cons, List.map_nil]); first | done | rfl | (simp only [List.length_drop, List.length_take]; rfl)) ?_; (with_reducible refine (ver_Compare.calls kj5 a0 a1 t374 _ A14.out).mono ?_); rintro e w22 ⟨rfl, hb⟩; refine ⟨_, rfl, ?_⟩; have n0_ := Aside0.mk (below_step (by repeat (first | (with_reducible first | exact HB.out | apply below_alloc | apply pw_below_drewN | apply below_drew1) | exact HB.out)) hb); clear HB; have HB := n0_; clear n0_; (try clear hb); (try clear hb2); (try clear hk); (try clear hi)) | (go_at_call 15; (with_reducible refine (ver_Compare.calls kj5 a1 a2 t375 _ A17.out).mono ?_); rintro e w23 ⟨rfl, hb⟩; have n0_ := Aside0.mk (below_step (by repeat (first | (with_reducible first | exact HB.out | apply below_alloc | apply pw_below_drewN | apply below_drew1) | exact HB.out)) hb); clear HB; have HB := n0_; clear n0_; (try clear hb); (try clear hb2); (try clear hk); (try clear hi)) | (go_at_call 15; (with_reducible refine (ver_Compare.calls kj5 a0 a2 t376 _ A21.out).mono ?_); rintro e w24 ⟨rfl, hb⟩; have n0_ := Aside0.mk (below_step (by repeat (first | (with_reducible first | exact HB.out | apply below_alloc | apply pw_below_drewN | apply below_drew1) | exact HB.out)) hb); clear HB; have HB := n0_; clear n0_; (try clear hb); (try clear hb2); (try clear hk); (try clear hi)))
              go_ret
              exact ⟨by first | rfl | (simp [errW_none, errW_some] <;> rfl) | (simp [*, errW_none, errW_some] <;> rfl), by repeat (first | (with_reducible first | exact HB.out | apply below_alloc | apply pw_below_drewN | apply below_drew1) | exact HB.out)⟩
  · replace c5 := Bool.eq_false_iff.mpr c5
    subst c5
    have H1 : (some false) = some r := by rw [if_neg (show ¬ (false = true) by decide)] at H; exact H
    clear H
    have H := H1
    clear H1
    obtain rfl := Option.some.inj H
    go_enter Tryd.func5, Tryd.ntmps5
    go_wp2_with (first | ((with_reducible refine gate_callee (f := 8) rfl ?_); refine goesL_ (some 7) rfl rfl Tryd.func8 (by kernel_rfl) rfl #[] rfl (by (try simp only [List.map_toArray, List.map_cons, List.map_nil]); first | done | rfl | (simp only [List.length_drop, List.length_take]; rfl)) ?_; (with_reducible refine (manciplelaw1_known.calls k  false _ A4.out).mono ?_); rintro e w25 ⟨rfl, hb⟩; refine ⟨_, rfl, ?_⟩; have n0_ := Aside0.mk (below_step (by repeat (first | (with_reducible first | exact HB.out | apply below_alloc | apply pw_below_drewN | apply below_drew1) | exact HB.out)) hb); clear HB; have HB := n0_; clear n0_; (try clear hb); (try clear hb2); (try clear hk); (try clear hi)))
    go_ret
    exact ⟨by first | rfl | (simp [errW_none, errW_some] <;> rfl) | (simp [*, errW_none, errW_some] <;> rfl), by repeat (first | (with_reducible first | exact HB.out | apply below_alloc | apply pw_below_drewN | apply below_drew1) | exact HB.out)⟩

/-- THE ONE PURE STATEMENT of manciplelaw1_VerRows: yours. -/
def manciplelaw1_VerRows.Pure : Prop := ∀ (a0 : ByteArray) (a1 : ByteArray) (a2 : ByteArray), a0.size ≤ 140737488351232 → a1.size ≤ 140737488351232 → a2.size ≤ 140737488351232 → ∃ k, manciplelaw1_VerRows.f k a0 a1 a2 = some true
theorem manciplelaw1_VerRows.walk (P : manciplelaw1_VerRows.Pure) (a0 : ByteArray) (a1 : ByteArray) (a2 : ByteArray) (w : World) (w0 : a0.size ≤ 140737488351232) (w1 : a1.size ≤ 140737488351232) (w2 : a2.size ≤ 140737488351232) :
    Calls Tryd.prog 5 #[.string a0, .string a1, .string a2] w fun e w' => e = .returned (.bool true) ∧ Below w.heap.size w w' := by
  obtain ⟨k, h⟩ := P a0 a1 a2 w0 w1 w2
  refine (manciplelaw1_VerRows.calls k a0 a1 a2 true w h).mono ?_
  rintro e w' ⟨rfl, hd⟩
  exact ⟨rfl, hd⟩
end Go.Proofs.YtneigokookpngaaDoor.Q
