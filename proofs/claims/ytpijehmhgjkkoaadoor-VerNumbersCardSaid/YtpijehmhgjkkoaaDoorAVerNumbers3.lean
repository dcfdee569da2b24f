/- Printed by a program of this repo, over the kit's print, for this claim; hand-made contracts stand among it. Plain theorems, Lean checks them. -/
import Derived.Test.YtpijehmhgjkkoaaDoorAVerNumbers2
namespace Go.Proofs.YtpijehmhgjkkoaaDoor.Q
open Go.RowKit Go.Proofs.YtpijehmhgjkkoaaDoorW.PrintWords Go.Proofs.YtpijehmhgjkkoaaDoorW.PrintLast Go.Proofs.YtpijehmhgjkkoaaDoorW.PrintMore
attribute [local go_sem] max2_int min2_int max_two min_two max_three min_three max_four min_four   -- for this text's walks alone
set_option linter.unusedVariables false
set_option linter.unusedSimpArgs false
/-! ### mancipleref9_parts: function 22 -/
mutual
def mancipleref9_parts.j2 : Nat → ByteArray → ByteArray → Option (ByteArray × ByteArray × ByteArray × Bool)
  | 0, _, _ => none
  | k + 1, x0, x6 => (mancipleref9_place.f k x0 45).bind fun t277 => (if t277 ≥ 0 then (if 0 ≤ (wrap64 (t277 + 1)) then (if (wrap64 (t277 + 1)) ≤ (x0.size : Int) then ((some (x0.extract ((wrap64 (t277 + 1)) : Int).toNat x0.size : ByteArray)).bind fun y278 => (if 0 ≤ t277 then (if t277 ≤ (x0.size : Int) then ((some (x0.extract 0 (t277 : Int).toNat : ByteArray)).bind fun y279 => ((mancipleref9_part.f k y278).bind fun t280 => (if t280 = true then ((mancipleref9_part.f k y279).bind fun t281 => (some (x6, y279, y278, t281))) else (some ((⟨#[]⟩ : ByteArray), (⟨#[]⟩ : ByteArray), (⟨#[]⟩ : ByteArray), false))))) else (none)) else (none))) else (none)) else (none)) else ((mancipleref9_part.f k x0).bind fun t282 => (some (x6, x0, (⟨#[]⟩ : ByteArray), t282))))
def mancipleref9_parts.j0 : Nat → ByteArray → ByteArray → Bool → Option (ByteArray × ByteArray × ByteArray × Bool)
  | 0, _, _, _ => none
  | k + 1, x0, x6, x28 => if x28 = true then (some ((⟨#[]⟩ : ByteArray), (⟨#[]⟩ : ByteArray), (⟨#[]⟩ : ByteArray), false)) else (mancipleref9_parts.l0 k x0 x6 0)
def mancipleref9_parts.l0 : Nat → ByteArray → ByteArray → Int → Option (ByteArray × ByteArray × ByteArray × Bool)
  | 0, _, _, _ => none
  | k + 1, x0, x6, x8 => if x8 < (x6.size : Int) then (if 0 ≤ x8 then ((mancipleref9_digit.f (bt x6 x8)).bind fun t276 => (if t276 = true then (mancipleref9_parts.l0 k x0 x6 (wrap64 (x8 + 1))) else (some ((⟨#[]⟩ : ByteArray), (⟨#[]⟩ : ByteArray), (⟨#[]⟩ : ByteArray), false)))) else (none)) else (mancipleref9_parts.j2 k x0 x6)
end
def mancipleref9_parts.f (k : Nat) (a0 : ByteArray) : Option (ByteArray × ByteArray × ByteArray × Bool) := (mancipleref9_place.f k a0 58).bind fun t273 => (if t273 ≥ 0 then (if 0 ≤ t273 then (if t273 ≤ (a0.size : Int) then ((some (a0.extract 0 (t273 : Int).toNat : ByteArray)).bind fun y274 => (if 0 ≤ (wrap64 (t273 + 1)) then (if (wrap64 (t273 + 1)) ≤ (a0.size : Int) then ((some (a0.extract ((wrap64 (t273 + 1)) : Int).toNat a0.size : ByteArray)).bind fun y275 => (if (y274.size : Int) < 1 then (mancipleref9_parts.j0 k y275 y274 true) else (mancipleref9_parts.j0 k y275 y274 (decide ((y274.size : Int) > 6))))) else (none)) else (none))) else (none)) else (none)) else (mancipleref9_parts.j2 k a0 (⟨#[]⟩ : ByteArray)))
theorem mancipleref9_parts.mono_l : ∀ k, (∀ y0 y1, LeO (mancipleref9_parts.j2 k y0 y1) (mancipleref9_parts.j2 (k + 1) y0 y1)) ∧ (∀ y0 y1 y2, LeO (mancipleref9_parts.j0 k y0 y1 y2) (mancipleref9_parts.j0 (k + 1) y0 y1 y2)) ∧ (∀ y0 y1 y2, LeO (mancipleref9_parts.l0 k y0 y1 y2) (mancipleref9_parts.l0 (k + 1) y0 y1 y2))
  | 0 => ⟨fun _ _ r h => by simp [mancipleref9_parts.j2] at h, fun _ _ _ r h => by simp [mancipleref9_parts.j0] at h, fun _ _ _ r h => by simp [mancipleref9_parts.l0] at h⟩
  | k + 1 => by
    obtain ⟨ih0, ih1, ih2⟩ := mancipleref9_parts.mono_l k
    refine ⟨?_, ?_, ?_⟩
    · intro y0 y1
      unfold mancipleref9_parts.j2
      repeat' first
      | (with_reducible exact ih0 _ _)
      | (with_reducible exact ih1 _ _ _)
      | (with_reducible exact ih2 _ _ _)
      | (with_reducible exact mancipleref9_part.mono _ _)
      | (with_reducible exact mancipleref9_place.mono _ _ _)
      | (with_reducible exact LeO.refl _)
      | (with_reducible exact LeO.none _)
      | (with_reducible refine LeO.ite ?_ ?_)
      | (with_reducible refine LeO.bind ?_ (fun _ => ?_))
      | exact ih0 _ _
      | exact ih1 _ _ _
      | exact ih2 _ _ _
      | exact mancipleref9_part.mono _ _
      | exact mancipleref9_place.mono _ _ _
      | exact LeO.none _
      | refine LeO.ite ?_ ?_
      | refine LeO.bind ?_ (fun _ => ?_)
    · intro y0 y1 y2
      unfold mancipleref9_parts.j0
      repeat' first
      | (with_reducible exact ih0 _ _)
      | (with_reducible exact ih1 _ _ _)
      | (with_reducible exact ih2 _ _ _)
      | (with_reducible exact mancipleref9_part.mono _ _)
      | (with_reducible exact mancipleref9_place.mono _ _ _)
      | (with_reducible exact LeO.refl _)
      | (with_reducible exact LeO.none _)
      | (with_reducible refine LeO.ite ?_ ?_)
      | (with_reducible refine LeO.bind ?_ (fun _ => ?_))
      | exact ih0 _ _
      | exact ih1 _ _ _
      | exact ih2 _ _ _
      | exact mancipleref9_part.mono _ _
      | exact mancipleref9_place.mono _ _ _
      | exact LeO.none _
      | refine LeO.ite ?_ ?_
      | refine LeO.bind ?_ (fun _ => ?_)
    · intro y0 y1 y2
      unfold mancipleref9_parts.l0
      repeat' first
      | (with_reducible exact ih0 _ _)
      | (with_reducible exact ih1 _ _ _)
      | (with_reducible exact ih2 _ _ _)
      | (with_reducible exact mancipleref9_part.mono _ _)
      | (with_reducible exact mancipleref9_place.mono _ _ _)
      | (with_reducible exact LeO.refl _)
      | (with_reducible exact LeO.none _)
      | (with_reducible refine LeO.ite ?_ ?_)
      | (with_reducible refine LeO.bind ?_ (fun _ => ?_))
      | exact ih0 _ _
      | exact ih1 _ _ _
      | exact ih2 _ _ _
      | exact mancipleref9_part.mono _ _
      | exact mancipleref9_place.mono _ _ _
      | exact LeO.none _
      | refine LeO.ite ?_ ?_
      | refine LeO.bind ?_ (fun _ => ?_)
theorem mancipleref9_parts.mono : ∀ a0 k, LeO (mancipleref9_parts.f k a0) (mancipleref9_parts.f (k + 1) a0) := by
  intro a0 k
  obtain ⟨ih0, ih1, ih2⟩ := mancipleref9_parts.mono_l k
  unfold mancipleref9_parts.f
  repeat' first
      | (with_reducible exact ih0 _ _)
      | (with_reducible exact ih1 _ _ _)
      | (with_reducible exact ih2 _ _ _)
      | (with_reducible exact mancipleref9_part.mono _ _)
      | (with_reducible exact mancipleref9_place.mono _ _ _)
      | (with_reducible exact LeO.refl _)
      | (with_reducible exact LeO.none _)
      | (with_reducible refine LeO.ite ?_ ?_)
      | (with_reducible refine LeO.bind ?_ (fun _ => ?_))
      | exact ih0 _ _
      | exact ih1 _ _ _
      | exact ih2 _ _ _
      | exact mancipleref9_part.mono _ _
      | exact mancipleref9_place.mono _ _ _
      | exact LeO.none _
      | refine LeO.ite ?_ ?_
      | refine LeO.bind ?_ (fun _ => ?_)
set_option maxHeartbeats 8000000 in
set_option maxRecDepth 100000 in
theorem mancipleref9_parts.calls (k : Nat) (a0 : ByteArray) (r1 : ByteArray) (r2 : ByteArray) (r3 : ByteArray) (r4 : Bool) (w : World) (h : mancipleref9_parts.f k a0 = some (r1, r2, r3, r4)) :
    Calls Tryd.prog 22 #[.string a0] w fun e w' => e = .returned (.tuple #[.string r1, .string r2, .string r3, .bool r4]) ∧ Drawn0 w w' := by
  have H : ((mancipleref9_place.f k a0 58).bind fun t273 => (if t273 ≥ 0 then (if 0 ≤ t273 then (if t273 ≤ (a0.size : Int) then ((some (a0.extract 0 (t273 : Int).toNat : ByteArray)).bind fun y274 => (if 0 ≤ (wrap64 (t273 + 1)) then (if (wrap64 (t273 + 1)) ≤ (a0.size : Int) then ((some (a0.extract ((wrap64 (t273 + 1)) : Int).toNat a0.size : ByteArray)).bind fun y275 => (if (y274.size : Int) < 1 then (mancipleref9_parts.j0 k y275 y274 true) else (mancipleref9_parts.j0 k y275 y274 (decide ((y274.size : Int) > 6))))) else (none)) else (none))) else (none)) else (none)) else (mancipleref9_parts.j2 k a0 (⟨#[]⟩ : ByteArray)))) = some (r1, r2, r3, r4) := h
  clear h
  replace H := Option.bind_eq_some_iff.mp H
  obtain ⟨t273, A20, H⟩ := H
  replace H : (if t273 ≥ 0 then (if 0 ≤ t273 then (if t273 ≤ (a0.size : Int) then ((some (a0.extract 0 (t273 : Int).toNat : ByteArray)).bind fun y274 => (if 0 ≤ (wrap64 (t273 + 1)) then (if (wrap64 (t273 + 1)) ≤ (a0.size : Int) then ((some (a0.extract ((wrap64 (t273 + 1)) : Int).toNat a0.size : ByteArray)).bind fun y275 => (if (y274.size : Int) < 1 then (mancipleref9_parts.j0 k y275 y274 true) else (mancipleref9_parts.j0 k y275 y274 (decide ((y274.size : Int) > 6))))) else (none)) else (none))) else (none)) else (none)) else (mancipleref9_parts.j2 k a0 (⟨#[]⟩ : ByteArray))) = some (r1, r2, r3, r4) := H
  have A2 := Aside0.mk A20
  clear A20
  have HC3 := Aside0.mk H
  clear H
  go_enter Tryd.func22, Tryd.ntmps22
  go_upto_if 13 with (first | ((with_reducible refine gate_callee (f := 40) rfl ?_); refine goesL_ (some 11) rfl rfl Tryd.func40 (by kernel_rfl) rfl #[.string a0, .int .u8 58] rfl (by (try simp only [List.map_toArray, List.map_cons, List.map_nil]); first | done | rfl | (simp only [List.length_drop, List.length_take]; rfl)) ?_; (with_reducible refine (mancipleref9_place.calls k a0 58 t273 _ A2.out).mono ?_); rintro e w' ⟨rfl, ⟨nd, rfl⟩⟩; refine ⟨_, rfl, ?_⟩))
  (try simp only [Act.put, List.setIfInBounds_toArray, List.set_cons_zero, List.set_cons_succ])
  go_cut [0, 6] (fun v0 v6 wc => ∃ (kq : Nat) (x0_2 : ByteArray) (x6_2 : ByteArray), v0 = .string x0_2 ∧ v6 = .string x6_2 ∧ Aside0 (mancipleref9_parts.j2 kq x0_2 x6_2 = some (r1, r2, r3, r4)) ∧ Aside0 (kq ≤ k) ∧ Drawn0 w wc)
  case first =>
    have H := HC3.out
    clear HC3
    by_cases c4 : t273 ≥ 0
    · rw [if_pos c4] at H
      have c4b0 : decide (0 ≤ t273) = true := decide_eq_true c4
      clear c4
      (first | rw [c4b0] | (simp only [i64_w, i32_w]; rw [c4b0]) | rw [c4b2] | skip)
      by_cases c5 : 0 ≤ t273
      · rw [if_pos c5] at H
        have c5b0 := eq_true c5
        have c5b1 : decide (0 ≤ t273) = true := decide_eq_true c5
        clear c5
        by_cases c6 : t273 ≤ (a0.size : Int)
        · rw [if_pos c6] at H
          have c6b0 := eq_true c6
          have c6b1 : decide (t273 ≤ (a0.size : Int)) = true := decide_eq_true c6
          clear c6
          obtain ⟨y274, hy274⟩ : ∃ y_ : ByteArray, y_ = (a0.extract 0 (t273 : Int).toNat) := ⟨_, rfl⟩
          replace H : (if 0 ≤ (wrap64 (t273 + 1)) then (if (wrap64 (t273 + 1)) ≤ (a0.size : Int) then ((some (a0.extract ((wrap64 (t273 + 1)) : Int).toNat a0.size : ByteArray)).bind fun y275 => (if (y274.size : Int) < 1 then (mancipleref9_parts.j0 k y275 y274 true) else (mancipleref9_parts.j0 k y275 y274 (decide ((y274.size : Int) > 6))))) else (none)) else (none)) = some (r1, r2, r3, r4) := by first | (rw [hy274]; with_reducible exact H) | (have H2_ := (Option.bind_some _ _).symm.trans H; rw [hy274]; with_reducible exact H2_) | (have H2_ := (Option.bind_some _ _).symm.trans H; with_reducible exact H2_) | with_reducible exact H | (rw [hy274]; exact H) | exact H
          have Ny274 := Aside0.mk hy274
          clear hy274
          have Ey274 : a0.extract 0 (t273 : Int).toNat = y274 := Ny274.out.symm
          obtain ⟨ji7, hji7⟩ : ∃ j_ : Int, (wrap64 (t273 + 1)) = j_ := ⟨_, rfl⟩
          replace H : (if 0 ≤ (ji7) then (if (ji7) ≤ (a0.size : Int) then ((some (a0.extract ((ji7) : Int).toNat a0.size : ByteArray)).bind fun y275 => (if (y274.size : Int) < 1 then (mancipleref9_parts.j0 k y275 y274 true) else (mancipleref9_parts.j0 k y275 y274 (decide ((y274.size : Int) > 6))))) else (none)) else (none)) = some (r1, r2, r3, r4) := by first | (rw [hji7] at H; exact H) | (simp only [hji7] at H ⊢; exact H)
          have hji7w : (IntKind.i64.wrap (t273 + 1)) = ji7 := (i64_w _).trans hji7
          by_cases c8 : 0 ≤ (ji7)
          · rw [if_pos c8] at H
            have c8b0 := eq_true c8
            have c8b1 : decide (0 ≤ (ji7)) = true := decide_eq_true c8
            clear c8
            by_cases c9 : (ji7) ≤ (a0.size : Int)
            · rw [if_pos c9] at H
              have c9b0 := eq_true c9
              have c9b1 : decide ((ji7) ≤ (a0.size : Int)) = true := decide_eq_true c9
              clear c9
              obtain ⟨y275, hy275⟩ : ∃ y_ : ByteArray, y_ = (a0.extract ((ji7) : Int).toNat a0.size) := ⟨_, rfl⟩
              replace H : (if (y274.size : Int) < 1 then (mancipleref9_parts.j0 k y275 y274 true) else (mancipleref9_parts.j0 k y275 y274 (decide ((y274.size : Int) > 6)))) = some (r1, r2, r3, r4) := by first | (rw [hy275]; with_reducible exact H) | (have H2_ := (Option.bind_some _ _).symm.trans H; rw [hy275]; with_reducible exact H2_) | (have H2_ := (Option.bind_some _ _).symm.trans H; with_reducible exact H2_) | with_reducible exact H | (rw [hy275]; exact H) | exact H
              have Ny275 := Aside0.mk hy275
              clear hy275
              have Ey275 : a0.extract ((ji7) : Int).toNat a0.size = y275 := Ny275.out.symm
              have HC10 := Aside0.mk H
              clear H
              go_upto_region 6 with (fail)
              go_cut [28] (fun v28 wc => ∃ (kq : Nat) (x28_9 : Bool), v28 = .bool x28_9 ∧ Aside0 (mancipleref9_parts.j0 kq y275 y274 x28_9 = some (r1, r2, r3, r4)) ∧ Aside0 (kq ≤ k) ∧ Drawn0 w wc)
              case first =>
                have H := HC10.out
                clear HC10
                by_cases c11 : (y274.size : Int) < 1
                · rw [if_pos c11] at H
                  have c11b0 : decide ((y274.size : Int) < 1) = true := decide_eq_true c11
                  have c11b1 : decide (y274.size < 1) = true := decide_eq_true (by omega)
                  clear c11
                  (first | rw [c11b0] | (simp only [i64_w, i32_w]; rw [c11b0]) | rw [c11b2] | skip)
                  have H' := Aside0.mk H
                  clear H
                  go_wp2
                  go_meet
                  case rel => exact ⟨_, (true), (by first | rfl | (simp; done) | (simp [*]; done)), H', ⟨by first | omega | exact Nat.le_refl _⟩, by repeat (first | exact Drawn0.refl _ | apply Drawn0.step)⟩
                · rw [if_neg c11] at H
                  have c11b0 : decide ((y274.size : Int) < 1) = false := decide_eq_false c11
                  have c11b1 : decide (y274.size < 1) = false := decide_eq_false (by omega)
                  clear c11
                  (first | rw [c11b0] | (simp only [i64_w, i32_w]; rw [c11b0]) | rw [c11b2] | skip)
                  have H' := Aside0.mk H
                  clear H
                  go_wp2
                  go_meet
                  case rel => exact ⟨_, (decide ((y274.size : Int) > 6)), (by first | rfl | (simp; done) | (simp [*]; done)), H', ⟨by first | omega | exact Nat.le_refl _⟩, by repeat (first | exact Drawn0.refl _ | apply Drawn0.step)⟩
              case rest =>
                clear HC10
                try clear c1
                try clear c2
                try clear p2
                try clear c4
                try clear c4b0
                try clear c4b2
                try clear c5
                try clear c5b0
                try clear c5b1
                try clear c6
                try clear c6b0
                try clear c6b1
                try clear p6
                try clear c8
                try clear c8b0
                try clear c8b1
                try clear c9
                try clear c9b0
                try clear c9b1
                try clear c11
                try clear c11b0
                try clear c11b1
                try clear c11b2
                obtain ⟨kq, x28_9, rfl, HA, HJ9, ⟨mc9, rfl⟩⟩ := hcut
                cases kq with
                | zero => exact absurd HA.out (by simp [mancipleref9_parts.j0])
                | succ kj9 =>
                  have H := HA.out
                  clear HA
                  simp only [mancipleref9_parts.j0] at H
                  by_cases c12 : x28_9 = true
                  · subst c12
                    have H1 : (some ((⟨#[]⟩ : ByteArray), (⟨#[]⟩ : ByteArray), (⟨#[]⟩ : ByteArray), false)) = some (r1, r2, r3, r4) := by rw [if_pos rfl] at H; exact H
                    clear H
                    have H := H1
                    clear H1
                    simp only [Option.some.injEq, Prod.mk.injEq] at H
                    obtain ⟨rfl, rfl, rfl, rfl⟩ := H
                    go_wp2
                    refine bodyPost_ret (results_list (rs := [.tmp 2, .tmp 3, .tmp 4, .tmp 5]) rfl (by simp) (.tmp (.tmp (.tmp (.tmp .nil))))) rfl ?_
                    exact ⟨by first | rfl | (simp; done) | (simp only [← hji7] <;> (first | rfl | simp)) | (simp [*]; done), by repeat (first | exact Drawn0.refl _ | apply Drawn0.step)⟩
                  · replace c12 := Bool.eq_false_iff.mpr c12
                    subst c12
                    have H1 : (mancipleref9_parts.l0 kj9 y275 y274 0) = some (r1, r2, r3, r4) := by rw [if_neg (show ¬ (false = true) by decide)] at H; exact H
                    clear H
                    have H := H1
                    clear H1
                    have H' := Aside0.mk H
                    clear H
                    go_wp2
                    go_loopg [8] kj9 (fun kq v8 w' => ∃ (x8_2 : Int), v8 = .int .i64 x8_2 ∧ Aside0 (mancipleref9_parts.l0 kq y275 y274 x8_2 = some (r1, r2, r3, r4)) ∧ Aside0 (kq ≤ kj9) ∧ Drawn0 w w')
                    case atStart => exact ⟨(0), (by first | rfl | (simp; done) | (simp [*]; done)), H', ⟨Nat.le_refl _⟩, by repeat (first | exact Drawn0.refl _ | apply Drawn0.step)⟩
                    case round =>
                      clear H'
                      try clear c1
                      try clear c2
                      try clear p2
                      try clear c4
                      try clear c4b0
                      try clear c4b2
                      try clear c5
                      try clear c5b0
                      try clear c5b1
                      try clear c6
                      try clear c6b0
                      try clear c6b1
                      try clear p6
                      try clear c8
                      try clear c8b0
                      try clear c8b1
                      try clear c9
                      try clear c9b0
                      try clear c9b1
                      try clear c11
                      try clear c11b0
                      try clear c11b1
                      try clear c11b2
                      try clear c12
                      try clear p2
                      try clear p6
                      obtain ⟨x8_2, rfl, HA, HK2, ⟨m2, rfl⟩⟩ := hrel
                      cases gk with
                      | zero => exact absurd HA.out (by simp [mancipleref9_parts.l0])
                      | succ k2 =>
                        have H := HA.out
                        clear HA
                        simp only [mancipleref9_parts.l0] at H
                        by_cases c13 : x8_2 < (y274.size : Int)
                        · rw [if_pos c13] at H
                          have c13b0 : decide (x8_2 < (y274.size : Int)) = true := decide_eq_true c13
                          clear c13
                          by_cases c14 : 0 ≤ x8_2
                          · rw [if_pos c14] at H
                            have c14b0 : decide (0 ≤ x8_2) = true := decide_eq_true c14
                            clear c14
                            replace H := Option.bind_eq_some_iff.mp H
                            obtain ⟨t276, A160, H⟩ := H
                            replace H : (if t276 = true then (mancipleref9_parts.l0 k2 y275 y274 (wrap64 (x8_2 + 1))) else (some ((⟨#[]⟩ : ByteArray), (⟨#[]⟩ : ByteArray), (⟨#[]⟩ : ByteArray), false))) = some (r1, r2, r3, r4) := H
                            have A16 := Aside0.mk A160
                            clear A160
                            by_cases c17 : t276 = true
                            · subst c17
                              have H1 : (mancipleref9_parts.l0 k2 y275 y274 (wrap64 (x8_2 + 1))) = some (r1, r2, r3, r4) := by rw [if_pos rfl] at H; exact H
                              clear H
                              have H := H1
                              clear H1
                              have H' := Aside0.mk H
                              clear H
                              have p15 : 0 ≤ (x8_2 : Int) := of_decide_eq_true (by first | (with_reducible assumption) | assumption)
                              have q15 : x8_2 < (y274.size : Int) := of_decide_eq_true (by first | (with_reducible assumption) | assumption)
                              have hx15 := bt_at y274 x8_2
                              replace p15 := eq_true p15
                              replace q15 := eq_true q15
                              go_wp2_with (first | ((with_reducible refine gate_callee (f := 41) rfl ?_); refine goesL_ (some 38) rfl rfl Tryd.func41 (by kernel_rfl) rfl #[.int .u8 (bt y274 x8_2)] rfl (by (try simp only [List.map_toArray, List.map_cons, List.map_nil]); first | done | rfl | (simp only [List.length_drop, List.length_take]; rfl)) ?_; (with_reducible refine (mancipleref9_digit.calls (bt y274 x8_2) true _ A16.out).mono ?_); rintro e w' ⟨rfl, ⟨nd, rfl⟩⟩; refine ⟨_, rfl, ?_⟩))
                              go_roundg k2
                              case measure => have := HJ9.out; have := HK2.out; omega
                              case rel => exact ⟨(wrap64 (x8_2 + 1)), (by first | rfl | (simp; done) | (simp [*]; done)), H', ⟨by have := HJ9.out; have := HK2.out; omega⟩, by repeat (first | exact Drawn0.refl _ | apply Drawn0.step)⟩
                            · replace c17 := Bool.eq_false_iff.mpr c17
                              subst c17
                              have H1 : (some ((⟨#[]⟩ : ByteArray), (⟨#[]⟩ : ByteArray), (⟨#[]⟩ : ByteArray), false)) = some (r1, r2, r3, r4) := by rw [if_neg (show ¬ (false = true) by decide)] at H; exact H
                              clear H
                              have H := H1
                              clear H1
                              simp only [Option.some.injEq, Prod.mk.injEq] at H
                              obtain ⟨rfl, rfl, rfl, rfl⟩ := H
                              have p15 : 0 ≤ (x8_2 : Int) := of_decide_eq_true (by first | (with_reducible assumption) | assumption)
                              have q15 : x8_2 < (y274.size : Int) := of_decide_eq_true (by first | (with_reducible assumption) | assumption)
                              have hx15 := bt_at y274 x8_2
                              replace p15 := eq_true p15
                              replace q15 := eq_true q15
                              go_wp2_with (first | ((with_reducible refine gate_callee (f := 41) rfl ?_); refine goesL_ (some 38) rfl rfl Tryd.func41 (by kernel_rfl) rfl #[.int .u8 (bt y274 x8_2)] rfl (by (try simp only [List.map_toArray, List.map_cons, List.map_nil]); first | done | rfl | (simp only [List.length_drop, List.length_take]; rfl)) ?_; (with_reducible refine (mancipleref9_digit.calls (bt y274 x8_2) false _ A16.out).mono ?_); rintro e w' ⟨rfl, ⟨nd, rfl⟩⟩; refine ⟨_, rfl, ?_⟩))
                              refine bodyPost_ret (results_list (rs := [.tmp 2, .tmp 3, .tmp 4, .tmp 5]) rfl (by simp) (.tmp (.tmp (.tmp (.tmp .nil))))) rfl ?_
                              exact ⟨by first | rfl | (simp; done) | (simp only [← hji7] <;> (first | rfl | simp)) | (simp [*]; done), by repeat (first | exact Drawn0.refl _ | apply Drawn0.step)⟩
                          · rw [if_neg c14] at H
                            exact absurd H (by simp)
                        · rw [if_neg c13] at H
                          have c13b0 : decide (x8_2 < (y274.size : Int)) = false := decide_eq_false c13
                          clear c13
                          have H' := Aside0.mk H
                          clear H
                          go_wp2
                          go_meet
                          case rel => exact ⟨_, (y275), (y274), (by first | rfl | (simp; done) | (simp [*]; done)), (by first | rfl | (simp; done) | (simp [*]; done)), H', ⟨by have := HJ9.out; have := HK2.out; first | omega | exact Nat.le_refl _⟩, by repeat (first | exact Drawn0.refl _ | apply Drawn0.step)⟩
            · rw [if_neg c9] at H
              exact absurd H (by simp)
          · rw [if_neg c8] at H
            exact absurd H (by simp)
        · rw [if_neg c6] at H
          exact absurd H (by simp)
      · rw [if_neg c5] at H
        exact absurd H (by simp)
    · rw [if_neg c4] at H
      have c4b0 : decide (0 ≤ t273) = false := decide_eq_false c4
      clear c4
      (first | rw [c4b0] | (simp only [i64_w, i32_w]; rw [c4b0]) | rw [c4b2] | skip)
      have H' := Aside0.mk H
      clear H
      go_wp2
      go_meet
      case rel => exact ⟨_, (a0), ((⟨#[]⟩ : ByteArray)), (by first | rfl | (simp; done) | (simp [*]; done)), (by first | rfl | (simp; done) | (simp [*]; done)), H', ⟨by first | omega | exact Nat.le_refl _⟩, by repeat (first | exact Drawn0.refl _ | apply Drawn0.step)⟩
  case rest =>
    clear HC3
    try clear c1
    try clear p1
    try clear q1
    try clear hx1
    try clear c2
    try clear p2
    try clear c4
    try clear c4b0
    try clear c4b2
    try clear c5
    try clear c5b0
    try clear c5b1
    try clear c6
    try clear c6b0
    try clear c6b1
    try clear p6
    try clear c8
    try clear c8b0
    try clear c8b1
    try clear c9
    try clear c9b0
    try clear c9b1
    try clear c11
    try clear c11b0
    try clear c11b1
    try clear c11b2
    try clear c12
    try clear c13
    try clear c13b0
    try clear c14
    try clear c14b0
    try clear p15
    try clear q15
    try clear hx15
    try clear c17
    try clear p15
    try clear p2
    try clear p6
    try clear q15
    obtain ⟨kq, x0_2, x6_2, rfl, rfl, HA, HJ2, ⟨mc2, rfl⟩⟩ := hcut
    cases kq with
    | zero => exact absurd HA.out (by simp [mancipleref9_parts.j2])
    | succ kj2 =>
      have H := HA.out
      clear HA
      simp only [mancipleref9_parts.j2] at H
      replace H := Option.bind_eq_some_iff.mp H
      obtain ⟨t277, A180, H⟩ := H
      replace H : (if t277 ≥ 0 then (if 0 ≤ (wrap64 (t277 + 1)) then (if (wrap64 (t277 + 1)) ≤ (x0_2.size : Int) then ((some (x0_2.extract ((wrap64 (t277 + 1)) : Int).toNat x0_2.size : ByteArray)).bind fun y278 => (if 0 ≤ t277 then (if t277 ≤ (x0_2.size : Int) then ((some (x0_2.extract 0 (t277 : Int).toNat : ByteArray)).bind fun y279 => ((mancipleref9_part.f kj2 y278).bind fun t280 => (if t280 = true then ((mancipleref9_part.f kj2 y279).bind fun t281 => (some (x6_2, y279, y278, t281))) else (some ((⟨#[]⟩ : ByteArray), (⟨#[]⟩ : ByteArray), (⟨#[]⟩ : ByteArray), false))))) else (none)) else (none))) else (none)) else (none)) else ((mancipleref9_part.f kj2 x0_2).bind fun t282 => (some (x6_2, x0_2, (⟨#[]⟩ : ByteArray), t282)))) = some (r1, r2, r3, r4) := H
      have A18 := Aside0.mk A180
      clear A180
      by_cases c19 : t277 ≥ 0
      · rw [if_pos c19] at H
        have c19b0 : decide (0 ≤ t277) = true := decide_eq_true c19
        clear c19
        obtain ⟨ji20, hji20⟩ : ∃ j_ : Int, (wrap64 (t277 + 1)) = j_ := ⟨_, rfl⟩
        replace H : (if 0 ≤ (ji20) then (if (ji20) ≤ (x0_2.size : Int) then ((some (x0_2.extract ((ji20) : Int).toNat x0_2.size : ByteArray)).bind fun y278 => (if 0 ≤ t277 then (if t277 ≤ (x0_2.size : Int) then ((some (x0_2.extract 0 (t277 : Int).toNat : ByteArray)).bind fun y279 => ((mancipleref9_part.f kj2 y278).bind fun t280 => (if t280 = true then ((mancipleref9_part.f kj2 y279).bind fun t281 => (some (x6_2, y279, y278, t281))) else (some ((⟨#[]⟩ : ByteArray), (⟨#[]⟩ : ByteArray), (⟨#[]⟩ : ByteArray), false))))) else (none)) else (none))) else (none)) else (none)) = some (r1, r2, r3, r4) := by first | (rw [hji20] at H; exact H) | (simp only [hji20] at H ⊢; exact H)
        (try rw [hji20] at A18)
        have hji20w : (IntKind.i64.wrap (t277 + 1)) = ji20 := (i64_w _).trans hji20
        by_cases c21 : 0 ≤ (ji20)
        · rw [if_pos c21] at H
          have c21b0 := eq_true c21
          have c21b1 : decide (0 ≤ (ji20)) = true := decide_eq_true c21
          clear c21
          by_cases c22 : (ji20) ≤ (x0_2.size : Int)
          · rw [if_pos c22] at H
            have c22b0 := eq_true c22
            have c22b1 : decide ((ji20) ≤ (x0_2.size : Int)) = true := decide_eq_true c22
            clear c22
            obtain ⟨y278, hy278⟩ : ∃ y_ : ByteArray, y_ = (x0_2.extract ((ji20) : Int).toNat x0_2.size) := ⟨_, rfl⟩
            replace H : (if 0 ≤ t277 then (if t277 ≤ (x0_2.size : Int) then ((some (x0_2.extract 0 (t277 : Int).toNat : ByteArray)).bind fun y279 => ((mancipleref9_part.f kj2 y278).bind fun t280 => (if t280 = true then ((mancipleref9_part.f kj2 y279).bind fun t281 => (some (x6_2, y279, y278, t281))) else (some ((⟨#[]⟩ : ByteArray), (⟨#[]⟩ : ByteArray), (⟨#[]⟩ : ByteArray), false))))) else (none)) else (none)) = some (r1, r2, r3, r4) := by first | (rw [hy278]; with_reducible exact H) | (have H2_ := (Option.bind_some _ _).symm.trans H; rw [hy278]; with_reducible exact H2_) | (have H2_ := (Option.bind_some _ _).symm.trans H; with_reducible exact H2_) | with_reducible exact H | (rw [hy278]; exact H) | exact H
            have Ny278 := Aside0.mk hy278
            clear hy278
            have Ey278 : x0_2.extract ((ji20) : Int).toNat x0_2.size = y278 := Ny278.out.symm
            by_cases c23 : 0 ≤ t277
            · rw [if_pos c23] at H
              have c23b0 := eq_true c23
              have c23b1 : decide (0 ≤ t277) = true := decide_eq_true c23
              clear c23
              by_cases c24 : t277 ≤ (x0_2.size : Int)
              · rw [if_pos c24] at H
                have c24b0 := eq_true c24
                have c24b1 : decide (t277 ≤ (x0_2.size : Int)) = true := decide_eq_true c24
                clear c24
                obtain ⟨y279, hy279⟩ : ∃ y_ : ByteArray, y_ = (x0_2.extract 0 (t277 : Int).toNat) := ⟨_, rfl⟩
                replace H : ((mancipleref9_part.f kj2 y278).bind fun t280 => (if t280 = true then ((mancipleref9_part.f kj2 y279).bind fun t281 => (some (x6_2, y279, y278, t281))) else (some ((⟨#[]⟩ : ByteArray), (⟨#[]⟩ : ByteArray), (⟨#[]⟩ : ByteArray), false)))) = some (r1, r2, r3, r4) := by first | (rw [hy279]; with_reducible exact H) | (have H2_ := (Option.bind_some _ _).symm.trans H; rw [hy279]; with_reducible exact H2_) | (have H2_ := (Option.bind_some _ _).symm.trans H; with_reducible exact H2_) | with_reducible exact H | (rw [hy279]; exact H) | exact H
                have Ny279 := Aside0.mk hy279
                clear hy279
                have Ey279 : x0_2.extract 0 (t277 : Int).toNat = y279 := Ny279.out.symm
                replace H := Option.bind_eq_some_iff.mp H
                obtain ⟨t280, A250, H⟩ := H
                replace H : (if t280 = true then ((mancipleref9_part.f kj2 y279).bind fun t281 => (some (x6_2, y279, y278, t281))) else (some ((⟨#[]⟩ : ByteArray), (⟨#[]⟩ : ByteArray), (⟨#[]⟩ : ByteArray), false))) = some (r1, r2, r3, r4) := H
                have A25 := Aside0.mk A250
                clear A250
                by_cases c26 : t280 = true
                · subst c26
                  have H1 : ((mancipleref9_part.f kj2 y279).bind fun t281 => (some (x6_2, y279, y278, t281))) = some (r1, r2, r3, r4) := by rw [if_pos rfl] at H; exact H
                  clear H
                  have H := H1
                  clear H1
                  replace H := Option.bind_eq_some_iff.mp H
                  obtain ⟨t281, A270, H⟩ := H
                  replace H : (some (x6_2, y279, y278, t281)) = some (r1, r2, r3, r4) := H
                  have A27 := Aside0.mk A270
                  clear A270
                  simp only [Option.some.injEq, Prod.mk.injEq] at H
                  obtain ⟨rfl, rfl, rfl, rfl⟩ := H
                  go_wp2_with (first | ((with_reducible refine gate_callee (f := 40) rfl ?_); refine goesL_ (some 41) rfl rfl Tryd.func40 (by kernel_rfl) rfl #[.string x0_2, .int .u8 45] rfl (by (try simp only [List.map_toArray, List.map_cons, List.map_nil]); first | done | rfl | (simp only [List.length_drop, List.length_take]; rfl)) ?_; (with_reducible refine (mancipleref9_place.calls kj2 x0_2 45 t277 _ A18.out).mono ?_); rintro e w' ⟨rfl, ⟨nd, rfl⟩⟩; refine ⟨_, rfl, ?_⟩) | ((with_reducible refine gate_callee (f := 42) rfl ?_); refine goesL_ (some 52) rfl rfl Tryd.func42 (by kernel_rfl) rfl #[.string y278] rfl (by (try simp only [List.map_toArray, List.map_cons, List.map_nil]); first | done | rfl | (simp only [List.length_drop, List.length_take]; rfl)) ?_; (with_reducible refine (mancipleref9_part.calls kj2 y278 true _ A25.out).mono ?_); rintro e w' ⟨rfl, ⟨nd, rfl⟩⟩; refine ⟨_, rfl, ?_⟩) | ((with_reducible refine gate_callee (f := 42) rfl ?_); refine goesL_ (some 58) rfl rfl Tryd.func42 (by kernel_rfl) rfl #[.string y279] rfl (by (try simp only [List.map_toArray, List.map_cons, List.map_nil]); first | done | rfl | (simp only [List.length_drop, List.length_take]; rfl)) ?_; (with_reducible refine (mancipleref9_part.calls kj2 y279 t281 _ A27.out).mono ?_); rintro e w' ⟨rfl, ⟨nd, rfl⟩⟩; refine ⟨_, rfl, ?_⟩))
                  refine bodyPost_ret (results_list (rs := [.tmp 2, .tmp 3, .tmp 4, .tmp 5]) rfl (by simp) (.tmp (.tmp (.tmp (.tmp .nil))))) rfl ?_
                  exact ⟨by first | rfl | (simp; done) | (simp only [← hji20] <;> (first | rfl | simp)) | (simp [*]; done), by repeat (first | exact Drawn0.refl _ | apply Drawn0.step)⟩
                · replace c26 := Bool.eq_false_iff.mpr c26
                  subst c26
                  have H1 : (some ((⟨#[]⟩ : ByteArray), (⟨#[]⟩ : ByteArray), (⟨#[]⟩ : ByteArray), false)) = some (r1, r2, r3, r4) := by rw [if_neg (show ¬ (false = true) by decide)] at H; exact H
                  clear H
                  have H := H1
                  clear H1
                  simp only [Option.some.injEq, Prod.mk.injEq] at H
                  obtain ⟨rfl, rfl, rfl, rfl⟩ := H
                  go_wp2_with (first | ((with_reducible refine gate_callee (f := 40) rfl ?_); refine goesL_ (some 41) rfl rfl Tryd.func40 (by kernel_rfl) rfl #[.string x0_2, .int .u8 45] rfl (by (try simp only [List.map_toArray, List.map_cons, List.map_nil]); first | done | rfl | (simp only [List.length_drop, List.length_take]; rfl)) ?_; (with_reducible refine (mancipleref9_place.calls kj2 x0_2 45 t277 _ A18.out).mono ?_); rintro e w' ⟨rfl, ⟨nd, rfl⟩⟩; refine ⟨_, rfl, ?_⟩) | ((with_reducible refine gate_callee (f := 42) rfl ?_); refine goesL_ (some 52) rfl rfl Tryd.func42 (by kernel_rfl) rfl #[.string y278] rfl (by (try simp only [List.map_toArray, List.map_cons, List.map_nil]); first | done | rfl | (simp only [List.length_drop, List.length_take]; rfl)) ?_; (with_reducible refine (mancipleref9_part.calls kj2 y278 false _ A25.out).mono ?_); rintro e w' ⟨rfl, ⟨nd, rfl⟩⟩; refine ⟨_, rfl, ?_⟩))
                  refine bodyPost_ret (results_list (rs := [.tmp 2, .tmp 3, .tmp 4, .tmp 5]) rfl (by simp) (.tmp (.tmp (.tmp (.tmp .nil))))) rfl ?_
                  exact ⟨by first | rfl | (simp; done) | (simp only [← hji20] <;> (first | rfl | simp)) | (simp [*]; done), by repeat (first | exact Drawn0.refl _ | apply Drawn0.step)⟩
              · rw [if_neg c24] at H
                exact absurd H (by simp)
            · rw [if_neg c23] at H
              exact absurd H (by simp)
          · rw [if_neg c22] at H
            exact absurd H (by simp)
        · rw [if_neg c21] at H
          exact absurd H (by simp)
      · rw [if_neg c19] at H
        have c19b0 : decide (0 ≤ t277) = false := decide_eq_false c19
        clear c19
        replace H := Option.bind_eq_some_iff.mp H
        obtain ⟨t282, A280, H⟩ := H
        replace H : (some (x6_2, x0_2, (⟨#[]⟩ : ByteArray), t282)) = some (r1, r2, r3, r4) := H
        have A28 := Aside0.mk A280
        clear A280
        simp only [Option.some.injEq, Prod.mk.injEq] at H
        obtain ⟨rfl, rfl, rfl, rfl⟩ := H
        go_wp2_with (first | ((with_reducible refine gate_callee (f := 40) rfl ?_); refine goesL_ (some 41) rfl rfl Tryd.func40 (by kernel_rfl) rfl #[.string x0_2, .int .u8 45] rfl (by (try simp only [List.map_toArray, List.map_cons, List.map_nil]); first | done | rfl | (simp only [List.length_drop, List.length_take]; rfl)) ?_; (with_reducible refine (mancipleref9_place.calls kj2 x0_2 45 t277 _ A18.out).mono ?_); rintro e w' ⟨rfl, ⟨nd, rfl⟩⟩; refine ⟨_, rfl, ?_⟩) | ((with_reducible refine gate_callee (f := 42) rfl ?_); refine goesL_ (some 58) rfl rfl Tryd.func42 (by kernel_rfl) rfl #[.string x0_2] rfl (by (try simp only [List.map_toArray, List.map_cons, List.map_nil]); first | done | rfl | (simp only [List.length_drop, List.length_take]; rfl)) ?_; (with_reducible refine (mancipleref9_part.calls kj2 x0_2 t282 _ A28.out).mono ?_); rintro e w' ⟨rfl, ⟨nd, rfl⟩⟩; refine ⟨_, rfl, ?_⟩))
        refine bodyPost_ret (results_list (rs := [.tmp 2, .tmp 3, .tmp 4, .tmp 5]) rfl (by simp) (.tmp (.tmp (.tmp (.tmp .nil))))) rfl ?_
        exact ⟨by first | rfl | (simp; done) | (simp [*]; done), by repeat (first | exact Drawn0.refl _ | apply Drawn0.step)⟩
end Go.Proofs.YtpijehmhgjkkoaaDoor.Q
namespace Go.Proofs.YtpijehmhgjkkoaaDoor.Q
open Go.RowKit Go.Proofs.YtpijehmhgjkkoaaDoorW.PrintWords Go.Proofs.YtpijehmhgjkkoaaDoorW.PrintLast Go.Proofs.YtpijehmhgjkkoaaDoorW.PrintMore
attribute [local go_sem] max2_int min2_int max_two min_two max_three min_three max_four min_four   -- for this text's walks alone
set_option linter.unusedVariables false
set_option linter.unusedSimpArgs false
/-! ### mancipleref9_CheckVer: function 12 -/
def mancipleref9_CheckVer.f (k : Nat) (a0 : ByteArray) : Option (Int) := if (a0.size : Int) > 40 then (some 4) else ((mancipleref9_parts.f k a0).bind fun bt283 => (if bt283.2.2.2 = true then (some 0) else (some 5)))
theorem mancipleref9_CheckVer.mono : ∀ a0 k, LeO (mancipleref9_CheckVer.f k a0) (mancipleref9_CheckVer.f (k + 1) a0) := by
  intro a0 k
  unfold mancipleref9_CheckVer.f
  repeat' first
      | (with_reducible exact mancipleref9_parts.mono _ _)
      | (with_reducible exact LeO.refl _)
      | (with_reducible exact LeO.none _)
      | (with_reducible refine LeO.ite ?_ ?_)
      | (with_reducible refine LeO.bind ?_ (fun _ => ?_))
      | exact mancipleref9_parts.mono _ _
      | exact LeO.none _
      | refine LeO.ite ?_ ?_
      | refine LeO.bind ?_ (fun _ => ?_)
set_option maxHeartbeats 8000000 in
set_option maxRecDepth 100000 in
theorem mancipleref9_CheckVer.calls (k : Nat) (a0 : ByteArray) (r : Int) (w : World) (h : mancipleref9_CheckVer.f k a0 = some r) :
    Calls Tryd.prog 12 #[.string a0] w fun e w' => e = .returned (.int .i64 r) ∧ Drawn0 w w' := by
  have H : (if (a0.size : Int) > 40 then (some 4) else ((mancipleref9_parts.f k a0).bind fun bt283 => (if bt283.2.2.2 = true then (some 0) else (some 5)))) = some r := h
  clear h
  by_cases c2 : (a0.size : Int) > 40
  · rw [if_pos c2] at H
    have c2b0 : decide (40 < (a0.size : Int)) = true := decide_eq_true c2
    have c2b1 : decide (40 < a0.size) = true := decide_eq_true (by omega)
    clear c2
    obtain rfl := Option.some.inj H
    go_enter Tryd.func12, Tryd.ntmps12
    go_wp2
    go_ret
    exact ⟨by first | rfl | (simp; done) | (simp [*]; done), by repeat (first | exact Drawn0.refl _ | apply Drawn0.step)⟩
  · rw [if_neg c2] at H
    have c2b0 : decide (40 < (a0.size : Int)) = false := decide_eq_false c2
    have c2b1 : decide (40 < a0.size) = false := decide_eq_false (by omega)
    clear c2
    replace H := Option.bind_eq_some_iff.mp H
    obtain ⟨⟨t283, t284, t285, t286⟩, A30, H⟩ := H
    replace H : (if t286 = true then (some 0) else (some 5)) = some r := H
    have A3 := Aside0.mk A30
    clear A30
    by_cases c4 : t286 = true
    · subst c4
      have H1 : (some 0) = some r := by rw [if_pos rfl] at H; exact H
      clear H
      have H := H1
      clear H1
      obtain rfl := Option.some.inj H
      go_enter Tryd.func12, Tryd.ntmps12
      go_wp2_with (first | ((with_reducible refine gate_callee (f := 22) rfl ?_); refine goesL_ (some 12) rfl rfl Tryd.func22 (by kernel_rfl) rfl #[.string a0] rfl (by (try simp only [List.map_toArray, List.map_cons, List.map_nil]); first | done | rfl | (simp only [List.length_drop, List.length_take]; rfl)) ?_; (with_reducible refine (mancipleref9_parts.calls k a0 t283 t284 t285 true _ A3.out).mono ?_); rintro e w' ⟨rfl, ⟨nd, rfl⟩⟩; refine ⟨_, rfl, ?_⟩))
      go_ret
      exact ⟨by first | rfl | (simp; done) | (simp [*]; done), by repeat (first | exact Drawn0.refl _ | apply Drawn0.step)⟩
    · replace c4 := Bool.eq_false_iff.mpr c4
      subst c4
      have H1 : (some 5) = some r := by rw [if_neg (show ¬ (false = true) by decide)] at H; exact H
      clear H
      have H := H1
      clear H1
      obtain rfl := Option.some.inj H
      go_enter Tryd.func12, Tryd.ntmps12
      go_wp2_with (first | ((with_reducible refine gate_callee (f := 22) rfl ?_); refine goesL_ (some 12) rfl rfl Tryd.func22 (by kernel_rfl) rfl #[.string a0] rfl (by (try simp only [List.map_toArray, List.map_cons, List.map_nil]); first | done | rfl | (simp only [List.length_drop, List.length_take]; rfl)) ?_; (with_reducible refine (mancipleref9_parts.calls k a0 t283 t284 t285 false _ A3.out).mono ?_); rintro e w' ⟨rfl, ⟨nd, rfl⟩⟩; refine ⟨_, rfl, ?_⟩))
      go_ret
      exact ⟨by first | rfl | (simp; done) | (simp [*]; done), by repeat (first | exact Drawn0.refl _ | apply Drawn0.step)⟩
end Go.Proofs.YtpijehmhgjkkoaaDoor.Q
namespace Go.Proofs.YtpijehmhgjkkoaaDoor.Q
open Go.RowKit Go.Proofs.YtpijehmhgjkkoaaDoorW.PrintWords Go.Proofs.YtpijehmhgjkkoaaDoorW.PrintLast Go.Proofs.YtpijehmhgjkkoaaDoorW.PrintMore
attribute [local go_sem] max2_int min2_int max_two min_two max_three min_three max_four min_four   -- for this text's walks alone
set_option linter.unusedVariables false
set_option linter.unusedSimpArgs false
/-! ### mancipleref9_bare: function 24 -/
def mancipleref9_bare.l0 : Nat → ByteArray → Option (ByteArray)
  | 0, _ => none
  | k + 1, x0 => if (x0.size : Int) > 1 then (if 0 < (x0.size : Int) then (if (bt x0 0) = 48 then (if 1 ≤ (x0.size : Int) then (mancipleref9_bare.l0 k (x0.extract 1 x0.size)) else (none)) else (some x0)) else (none)) else (some x0)
def mancipleref9_bare.f (k : Nat) (a0 : ByteArray) : Option (ByteArray) := mancipleref9_bare.l0 k a0
theorem mancipleref9_bare.mono_l : ∀ k, (∀ y0, LeO (mancipleref9_bare.l0 k y0) (mancipleref9_bare.l0 (k + 1) y0))
  | 0 => fun _ r h => by simp [mancipleref9_bare.l0] at h
  | k + 1 => by
    have ih0 := mancipleref9_bare.mono_l k
    · intro y0
      unfold mancipleref9_bare.l0
      repeat' first
      | (with_reducible exact ih0 _)
      | (with_reducible exact LeO.refl _)
      | (with_reducible exact LeO.none _)
      | (with_reducible refine LeO.ite ?_ ?_)
      | (with_reducible refine LeO.bind ?_ (fun _ => ?_))
      | exact ih0 _
      | exact LeO.none _
      | refine LeO.ite ?_ ?_
      | refine LeO.bind ?_ (fun _ => ?_)
theorem mancipleref9_bare.mono : ∀ a0 k, LeO (mancipleref9_bare.f k a0) (mancipleref9_bare.f (k + 1) a0) := by
  intro a0 k
  have ih0 := mancipleref9_bare.mono_l k
  unfold mancipleref9_bare.f
  repeat' first
      | (with_reducible exact ih0 _)
      | (with_reducible exact LeO.refl _)
      | (with_reducible exact LeO.none _)
      | (with_reducible refine LeO.ite ?_ ?_)
      | (with_reducible refine LeO.bind ?_ (fun _ => ?_))
      | exact ih0 _
      | exact LeO.none _
      | refine LeO.ite ?_ ?_
      | refine LeO.bind ?_ (fun _ => ?_)
set_option maxHeartbeats 8000000 in
set_option maxRecDepth 100000 in
theorem mancipleref9_bare.calls (k : Nat) (a0 : ByteArray) (r : ByteArray) (w : World) (h : mancipleref9_bare.f k a0 = some r) :
    Calls Tryd.prog 24 #[.string a0] w fun e w' => e = .returned (.string r) ∧ Drawn0 w w' := by
  have H : (mancipleref9_bare.l0 k a0) = some r := h
  clear h
  have H' := Aside0.mk H
  clear H
  go_enter Tryd.func24, Tryd.ntmps24
  go_wp2
  go_loopg [0] k (fun kq v0 w' => ∃ (x0_1 : ByteArray), v0 = .string x0_1 ∧ Aside0 (mancipleref9_bare.l0 kq x0_1 = some r) ∧ Aside0 (kq ≤ k) ∧ Drawn0 w w')
  case atStart => exact ⟨(a0), (by first | rfl | (simp; done) | (simp [*]; done)), H', ⟨Nat.le_refl _⟩, by repeat (first | exact Drawn0.refl _ | apply Drawn0.step)⟩
  case round =>
    clear H'
    obtain ⟨x0_1, rfl, HA, HK1, ⟨m1, rfl⟩⟩ := hrel
    cases gk with
    | zero => exact absurd HA.out (by simp [mancipleref9_bare.l0])
    | succ k1 =>
      have H := HA.out
      clear HA
      simp only [mancipleref9_bare.l0] at H
      by_cases c2 : (x0_1.size : Int) > 1
      · rw [if_pos c2] at H
        have c2b0 : decide (1 < (x0_1.size : Int)) = true := decide_eq_true c2
        have c2b1 : decide (1 < x0_1.size) = true := decide_eq_true (by omega)
        clear c2
        by_cases c3 : 0 < (x0_1.size : Int)
        · rw [if_pos c3] at H
          have c3b0 : decide (0 < (x0_1.size : Int)) = true := decide_eq_true c3
          have c3b1 : decide (0 < x0_1.size) = true := decide_eq_true (by omega)
          clear c3
          by_cases c5 : (bt x0_1 0) = 48
          · rw [if_pos c5] at H
            have c5b0 : ((bt x0_1 0) == 48) = true := beq_iff_eq.mpr c5
            have c5b1 : ((bt x0_1 0) != 48) = false := bne_eq_false_iff_eq.mpr c5
            clear c5
            by_cases c6 : 1 ≤ (x0_1.size : Int)
            · rw [if_pos c6] at H
              have c6b0 := eq_true c6
              have c6b1 : decide (1 ≤ (x0_1.size : Int)) = true := decide_eq_true c6
              clear c6
              obtain ⟨y287, hy287⟩ : ∃ y_ : ByteArray, y_ = (x0_1.extract 1 x0_1.size) := ⟨_, rfl⟩
              replace H : (mancipleref9_bare.l0 k1 y287) = some r := by first | (rw [hy287]; with_reducible exact H) | (have H2_ := (Option.bind_some _ _).symm.trans H; rw [hy287]; with_reducible exact H2_) | (have H2_ := (Option.bind_some _ _).symm.trans H; with_reducible exact H2_) | with_reducible exact H | (rw [hy287]; exact H) | exact H
              have Ny287 := Aside0.mk hy287
              clear hy287
              have Ey287 : x0_1.extract 1 x0_1.size = y287 := Ny287.out.symm
              have H' := Aside0.mk H
              clear H
              have p4 : 0 ≤ (0 : Int) := (by omega)
              have q4 : 0 < x0_1.size := (by have : (0 : Int) < (x0_1.size : Int) := of_decide_eq_true (by first | (with_reducible assumption) | assumption); omega)
              have hx4 : ∀ h : 0 < x0_1.size, ((x0_1[0]'h).toNat : Int) = bt x0_1 0 := bt_at x0_1 0
              clear p4
              have qi4 : (0 < (x0_1.size : Int)) = True := eq_true (of_decide_eq_true (by first | (with_reducible assumption) | assumption))
              replace q4 := eq_true q4
              go_wp2
              go_roundg k1
              case measure => have := HK1.out; omega
              case rel => exact ⟨(y287), (by first | rfl | (simp; done) | (simp [*]; done)), H', ⟨by have := HK1.out; omega⟩, by repeat (first | exact Drawn0.refl _ | apply Drawn0.step)⟩
            · rw [if_neg c6] at H
              exact absurd H (by simp)
          · rw [if_neg c5] at H
            have c5b0 : ((bt x0_1 0) == 48) = false := beq_eq_false_iff_ne.mpr c5
            have c5b1 : ((bt x0_1 0) != 48) = true := bne_iff_ne.mpr c5
            obtain rfl := Option.some.inj H
            have p4 : 0 ≤ (0 : Int) := (by omega)
            have q4 : 0 < x0_1.size := (by have : (0 : Int) < (x0_1.size : Int) := of_decide_eq_true (by first | (with_reducible assumption) | assumption); omega)
            have hx4 : ∀ h : 0 < x0_1.size, ((x0_1[0]'h).toNat : Int) = bt x0_1 0 := bt_at x0_1 0
            clear p4
            have qi4 : (0 < (x0_1.size : Int)) = True := eq_true (of_decide_eq_true (by first | (with_reducible assumption) | assumption))
            replace q4 := eq_true q4
            go_wp2
            go_ret
            exact ⟨by first | rfl | (simp; done) | (simp [*]; done), by repeat (first | exact Drawn0.refl _ | apply Drawn0.step)⟩
        · rw [if_neg c3] at H
          exact absurd H (by simp)
      · rw [if_neg c2] at H
        have c2b0 : decide (1 < (x0_1.size : Int)) = false := decide_eq_false c2
        have c2b1 : decide (1 < x0_1.size) = false := decide_eq_false (by omega)
        clear c2
        obtain rfl := Option.some.inj H
        go_wp2
        go_ret
        exact ⟨by first | rfl | (simp; done) | (simp [*]; done), by repeat (first | exact Drawn0.refl _ | apply Drawn0.step)⟩
end Go.Proofs.YtpijehmhgjkkoaaDoor.Q
namespace Go.Proofs.YtpijehmhgjkkoaaDoor.Q
open Go.RowKit Go.Proofs.YtpijehmhgjkkoaaDoorW.PrintWords Go.Proofs.YtpijehmhgjkkoaaDoorW.PrintLast Go.Proofs.YtpijehmhgjkkoaaDoorW.PrintMore
attribute [local go_sem] max2_int min2_int max_two min_two max_three min_three max_four min_four   -- for this text's walks alone
set_option linter.unusedVariables false
set_option linter.unusedSimpArgs false
/-! ### mancipleref9_run: function 43 -/
def mancipleref9_run.l0 : Nat → ByteArray → Bool → Int → Option (ByteArray × ByteArray)
  | 0, _, _, _ => none
  | k + 1, x0, x1, x6 => if x6 < (x0.size : Int) then (if 0 ≤ x6 then ((mancipleref9_digit.f (bt x0 x6)).bind fun t288 => (if (t288 == x1) = true then (mancipleref9_run.l0 k x0 x1 (wrap64 (x6 + 1))) else (if x6 ≤ (x0.size : Int) then (some ((x0.extract 0 (x6 : Int).toNat), (x0.extract (x6 : Int).toNat x0.size))) else (none)))) else (none)) else (if 0 ≤ x6 then (if x6 ≤ (x0.size : Int) then (some ((x0.extract 0 (x6 : Int).toNat), (x0.extract (x6 : Int).toNat x0.size))) else (none)) else (none))
def mancipleref9_run.f (k : Nat) (a0 : ByteArray) (a1 : Bool) : Option (ByteArray × ByteArray) := mancipleref9_run.l0 k a0 a1 0
theorem mancipleref9_run.mono_l : ∀ k, (∀ y0 y1 y2, LeO (mancipleref9_run.l0 k y0 y1 y2) (mancipleref9_run.l0 (k + 1) y0 y1 y2))
  | 0 => fun _ _ _ r h => by simp [mancipleref9_run.l0] at h
  | k + 1 => by
    have ih0 := mancipleref9_run.mono_l k
    · intro y0 y1 y2
      unfold mancipleref9_run.l0
      repeat' first
      | (with_reducible exact ih0 _ _ _)
      | (with_reducible exact LeO.refl _)
      | (with_reducible exact LeO.none _)
      | (with_reducible refine LeO.ite ?_ ?_)
      | (with_reducible refine LeO.bind ?_ (fun _ => ?_))
      | exact ih0 _ _ _
      | exact LeO.none _
      | refine LeO.ite ?_ ?_
      | refine LeO.bind ?_ (fun _ => ?_)
theorem mancipleref9_run.mono : ∀ a0 a1 k, LeO (mancipleref9_run.f k a0 a1) (mancipleref9_run.f (k + 1) a0 a1) := by
  intro a0 a1 k
  have ih0 := mancipleref9_run.mono_l k
  unfold mancipleref9_run.f
  repeat' first
      | (with_reducible exact ih0 _ _ _)
      | (with_reducible exact LeO.refl _)
      | (with_reducible exact LeO.none _)
      | (with_reducible refine LeO.ite ?_ ?_)
      | (with_reducible refine LeO.bind ?_ (fun _ => ?_))
      | exact ih0 _ _ _
      | exact LeO.none _
      | refine LeO.ite ?_ ?_
      | refine LeO.bind ?_ (fun _ => ?_)
set_option maxHeartbeats 8000000 in
set_option maxRecDepth 100000 in
theorem mancipleref9_run.calls (k : Nat) (a0 : ByteArray) (a1 : Bool) (r1 : ByteArray) (r2 : ByteArray) (w : World) (h : mancipleref9_run.f k a0 a1 = some (r1, r2)) :
    Calls Tryd.prog 43 #[.string a0, .bool a1] w fun e w' => e = .returned (.tuple #[.string r1, .string r2]) ∧ Drawn0 w w' := by
  have H : (mancipleref9_run.l0 k a0 a1 0) = some (r1, r2) := h
  clear h
  have H' := Aside0.mk H
  clear H
  go_enter Tryd.func43, Tryd.ntmps43
  go_wp2
  repeat (go_quiet (fail); try go_wp2)
  go_loopg [6] k (fun kq v6 w' => ∃ (x6_1 : Int), v6 = .int .i64 x6_1 ∧ Aside0 (mancipleref9_run.l0 kq a0 a1 x6_1 = some (r1, r2)) ∧ Aside0 (kq ≤ k) ∧ Drawn0 w w')
  case atStart => exact ⟨(0), (by first | rfl | (simp; done) | (simp [*]; done)), H', ⟨Nat.le_refl _⟩, by repeat (first | exact Drawn0.refl _ | apply Drawn0.step)⟩
  case round =>
    clear H'
    try clear p2
    obtain ⟨x6_1, rfl, HA, HK1, ⟨m1, rfl⟩⟩ := hrel
    cases gk with
    | zero => exact absurd HA.out (by simp [mancipleref9_run.l0])
    | succ k1 =>
      have H := HA.out
      clear HA
      simp only [mancipleref9_run.l0] at H
      by_cases c3 : x6_1 < (a0.size : Int)
      · rw [if_pos c3] at H
        have c3b0 : decide (x6_1 < (a0.size : Int)) = true := decide_eq_true c3
        clear c3
        by_cases c4 : 0 ≤ x6_1
        · rw [if_pos c4] at H
          have c4b0 : decide (0 ≤ x6_1) = true := decide_eq_true c4
          clear c4
          replace H := Option.bind_eq_some_iff.mp H
          obtain ⟨t288, A60, H⟩ := H
          replace H : (if (t288 == a1) = true then (mancipleref9_run.l0 k1 a0 a1 (wrap64 (x6_1 + 1))) else (if x6_1 ≤ (a0.size : Int) then (some ((a0.extract 0 (x6_1 : Int).toNat), (a0.extract (x6_1 : Int).toNat a0.size))) else (none))) = some (r1, r2) := H
          have A6 := Aside0.mk A60
          clear A60
          by_cases c7 : (t288 == a1) = true
          · rw [if_pos c7] at H
            have c7b0 : (t288 == a1) = true := c7
            (try (have c7b1 : decide (t288 = a1) = true := by simpa using c7))
            (try (have c7b2 : (t288 == a1) = true := by simpa using c7))
            clear c7
            have H' := Aside0.mk H
            clear H
            have p5 : 0 ≤ (x6_1 : Int) := of_decide_eq_true (by first | (with_reducible assumption) | assumption)
            have q5 : x6_1 < (a0.size : Int) := of_decide_eq_true (by first | (with_reducible assumption) | assumption)
            have hx5 := bt_at a0 x6_1
            replace p5 := eq_true p5
            replace q5 := eq_true q5
            go_wp2_with (first | (go_at_call 41; (with_reducible refine (mancipleref9_digit.calls (bt a0 x6_1) t288 _ A6.out).mono ?_); rintro e w' ⟨rfl, ⟨nd, rfl⟩⟩; (try first | exact ⟨rfl, _, World.drewN_drewN _ _ _⟩ | exact ⟨rfl, _, Eq.trans (World.drewN_drewN _ _ _) (congrArg (World.drewN _) (Nat.add_assoc _ _ _))⟩)))
            repeat (go_quiet (first | (go_at_call 41; (with_reducible refine (mancipleref9_digit.calls (bt a0 x6_1) t288 _ A6.out).mono ?_); rintro e w' ⟨rfl, ⟨nd, rfl⟩⟩; (try first | exact ⟨rfl, _, World.drewN_drewN _ _ _⟩ | exact ⟨rfl, _, Eq.trans (World.drewN_drewN _ _ _) (congrArg (World.drewN _) (Nat.add_assoc _ _ _))⟩))); try go_wp2_with (first | (go_at_call 41; (with_reducible refine (mancipleref9_digit.calls (bt a0 x6_1) t288 _ A6.out).mono ?_); rintro e w' ⟨rfl, ⟨nd, rfl⟩⟩; (try first | exact ⟨rfl, _, World.drewN_drewN _ _ _⟩ | exact ⟨rfl, _, Eq.trans (World.drewN_drewN _ _ _) (congrArg (World.drewN _) (Nat.add_assoc _ _ _))⟩))))
            go_roundg k1
            case measure => have := HK1.out; omega
            case rel => exact ⟨(wrap64 (x6_1 + 1)), (by first | rfl | (simp; done) | (simp [*]; done)), H', ⟨by have := HK1.out; omega⟩, by repeat (first | exact Drawn0.refl _ | apply Drawn0.step)⟩
          · rw [if_neg c7] at H
            have c7b0 : (t288 == a1) = false := by simpa using c7
            (try (have c7b1 : decide (t288 = a1) = false := by simpa using c7))
            (try (have c7b2 : (t288 == a1) = false := by simpa using c7))
            (try (have c7b3 : ¬ (t288 = a1) := by simpa using c7))
            clear c7
            have c8b0 := eq_true (of_decide_eq_true (by first | (with_reducible assumption) | assumption) : 0 ≤ x6_1)
            by_cases c9 : x6_1 ≤ (a0.size : Int)
            · rw [if_pos c9] at H
              have c9b0 := eq_true c9
              have c9b1 : decide (x6_1 ≤ (a0.size : Int)) = true := decide_eq_true c9
              clear c9
              obtain ⟨y289, hy289⟩ : ∃ y_ : ByteArray, y_ = (a0.extract 0 (x6_1 : Int).toNat) := ⟨_, rfl⟩
              replace H : (some (y289, (a0.extract (x6_1 : Int).toNat a0.size))) = some (r1, r2) := by first | (rw [hy289]; with_reducible exact H) | (have H2_ := (Option.bind_some _ _).symm.trans H; rw [hy289]; with_reducible exact H2_) | (have H2_ := (Option.bind_some _ _).symm.trans H; with_reducible exact H2_) | with_reducible exact H | (rw [hy289]; exact H) | exact H
              have Ny289 := Aside0.mk hy289
              clear hy289
              have Ey289 : a0.extract 0 (x6_1 : Int).toNat = y289 := Ny289.out.symm
              have c10b0 := eq_true (of_decide_eq_true (by first | (with_reducible assumption) | assumption) : 0 ≤ x6_1)
              have c11b0 := eq_true (of_decide_eq_true (by first | (with_reducible assumption) | assumption) : x6_1 ≤ (a0.size : Int))
              obtain ⟨y290, hy290⟩ : ∃ y_ : ByteArray, y_ = (a0.extract (x6_1 : Int).toNat a0.size) := ⟨_, rfl⟩
              replace H : (some (y289, y290)) = some (r1, r2) := by first | (rw [hy290]; with_reducible exact H) | (have H2_ := (Option.bind_some _ _).symm.trans H; rw [hy290]; with_reducible exact H2_) | (have H2_ := (Option.bind_some _ _).symm.trans H; with_reducible exact H2_) | with_reducible exact H | (rw [hy290]; exact H) | exact H
              have Ny290 := Aside0.mk hy290
              clear hy290
              have Ey290 : a0.extract (x6_1 : Int).toNat a0.size = y290 := Ny290.out.symm
              simp only [Option.some.injEq, Prod.mk.injEq] at H
              obtain ⟨rfl, rfl⟩ := H
              have p5 : 0 ≤ (x6_1 : Int) := of_decide_eq_true (by first | (with_reducible assumption) | assumption)
              have q5 : x6_1 < (a0.size : Int) := of_decide_eq_true (by first | (with_reducible assumption) | assumption)
              have hx5 := bt_at a0 x6_1
              replace p5 := eq_true p5
              replace q5 := eq_true q5
              go_wp2_with (first | (go_at_call 41; (with_reducible refine (mancipleref9_digit.calls (bt a0 x6_1) t288 _ A6.out).mono ?_); rintro e w' ⟨rfl, ⟨nd, rfl⟩⟩; (try first | exact ⟨rfl, _, World.drewN_drewN _ _ _⟩ | exact ⟨rfl, _, Eq.trans (World.drewN_drewN _ _ _) (congrArg (World.drewN _) (Nat.add_assoc _ _ _))⟩)))
              repeat (go_quiet (first | (go_at_call 41; (with_reducible refine (mancipleref9_digit.calls (bt a0 x6_1) t288 _ A6.out).mono ?_); rintro e w' ⟨rfl, ⟨nd, rfl⟩⟩; (try first | exact ⟨rfl, _, World.drewN_drewN _ _ _⟩ | exact ⟨rfl, _, Eq.trans (World.drewN_drewN _ _ _) (congrArg (World.drewN _) (Nat.add_assoc _ _ _))⟩))); try go_wp2_with (first | (go_at_call 41; (with_reducible refine (mancipleref9_digit.calls (bt a0 x6_1) t288 _ A6.out).mono ?_); rintro e w' ⟨rfl, ⟨nd, rfl⟩⟩; (try first | exact ⟨rfl, _, World.drewN_drewN _ _ _⟩ | exact ⟨rfl, _, Eq.trans (World.drewN_drewN _ _ _) (congrArg (World.drewN _) (Nat.add_assoc _ _ _))⟩))))
              go_ret2
              exact ⟨by first | rfl | (simp; done) | (simp [*]; done), by repeat (first | exact Drawn0.refl _ | apply Drawn0.step)⟩
            · rw [if_neg c9] at H
              exact absurd H (by simp)
        · rw [if_neg c4] at H
          exact absurd H (by simp)
      · rw [if_neg c3] at H
        have c3b0 : decide (x6_1 < (a0.size : Int)) = false := decide_eq_false c3
        clear c3
        by_cases c12 : 0 ≤ x6_1
        · rw [if_pos c12] at H
          have c12b0 := eq_true c12
          have c12b1 : decide (0 ≤ x6_1) = true := decide_eq_true c12
          clear c12
          by_cases c13 : x6_1 ≤ (a0.size : Int)
          · rw [if_pos c13] at H
            have c13b0 := eq_true c13
            have c13b1 : decide (x6_1 ≤ (a0.size : Int)) = true := decide_eq_true c13
            clear c13
            obtain ⟨y291, hy291⟩ : ∃ y_ : ByteArray, y_ = (a0.extract 0 (x6_1 : Int).toNat) := ⟨_, rfl⟩
            replace H : (some (y291, (a0.extract (x6_1 : Int).toNat a0.size))) = some (r1, r2) := by first | (rw [hy291]; with_reducible exact H) | (have H2_ := (Option.bind_some _ _).symm.trans H; rw [hy291]; with_reducible exact H2_) | (have H2_ := (Option.bind_some _ _).symm.trans H; with_reducible exact H2_) | with_reducible exact H | (rw [hy291]; exact H) | exact H
            have Ny291 := Aside0.mk hy291
            clear hy291
            have Ey291 : a0.extract 0 (x6_1 : Int).toNat = y291 := Ny291.out.symm
            have c14b0 := eq_true (of_decide_eq_true (by first | (with_reducible assumption) | assumption) : 0 ≤ x6_1)
            have c15b0 := eq_true (of_decide_eq_true (by first | (with_reducible assumption) | assumption) : x6_1 ≤ (a0.size : Int))
            obtain ⟨y292, hy292⟩ : ∃ y_ : ByteArray, y_ = (a0.extract (x6_1 : Int).toNat a0.size) := ⟨_, rfl⟩
            replace H : (some (y291, y292)) = some (r1, r2) := by first | (rw [hy292]; with_reducible exact H) | (have H2_ := (Option.bind_some _ _).symm.trans H; rw [hy292]; with_reducible exact H2_) | (have H2_ := (Option.bind_some _ _).symm.trans H; with_reducible exact H2_) | with_reducible exact H | (rw [hy292]; exact H) | exact H
            have Ny292 := Aside0.mk hy292
            clear hy292
            have Ey292 : a0.extract (x6_1 : Int).toNat a0.size = y292 := Ny292.out.symm
            simp only [Option.some.injEq, Prod.mk.injEq] at H
            obtain ⟨rfl, rfl⟩ := H
            go_wp2
            repeat (go_quiet (fail); try go_wp2)
            go_ret2
            exact ⟨by first | rfl | (simp; done) | (simp [*]; done), by repeat (first | exact Drawn0.refl _ | apply Drawn0.step)⟩
          · rw [if_neg c13] at H
            exact absurd H (by simp)
        · rw [if_neg c12] at H
          exact absurd H (by simp)
end Go.Proofs.YtpijehmhgjkkoaaDoor.Q
namespace Go.Proofs.YtpijehmhgjkkoaaDoor.Q
open Go.RowKit Go.Proofs.YtpijehmhgjkkoaaDoorW.PrintWords Go.Proofs.YtpijehmhgjkkoaaDoorW.PrintLast Go.Proofs.YtpijehmhgjkkoaaDoorW.PrintMore
attribute [local go_sem] max2_int min2_int max_two min_two max_three min_three max_four min_four   -- for this text's walks alone
set_option linter.unusedVariables false
set_option linter.unusedSimpArgs false
/-! ### mancipleref9_canon: function 23 -/
def mancipleref9_canon.l0 : Nat → ByteArray → ByteArray → Bool → Option (ByteArray)
  | 0, _, _, _ => none
  | k + 1, x0, x3, x4 => if x0.toList = ([] : List UInt8) then (some x3) else ((mancipleref9_run.f k x0 x4).bind fun bt293 => (if x4 = true then ((mancipleref9_bare.f k bt293.1).bind fun t295 => (if x3.size + t295.size ≤ 9223372036854775807 then (mancipleref9_canon.l0 k bt293.2 (x3 ++ t295) (!x4)) else (none))) else (if x3.size + bt293.1.size ≤ 9223372036854775807 then (mancipleref9_canon.l0 k bt293.2 (x3 ++ bt293.1) (!x4)) else (none))))
def mancipleref9_canon.f (k : Nat) (a0 : ByteArray) : Option (ByteArray) := mancipleref9_canon.l0 k a0 (⟨#[]⟩ : ByteArray) true
theorem mancipleref9_canon.mono_l : ∀ k, (∀ y0 y1 y2, LeO (mancipleref9_canon.l0 k y0 y1 y2) (mancipleref9_canon.l0 (k + 1) y0 y1 y2))
  | 0 => fun _ _ _ r h => by simp [mancipleref9_canon.l0] at h
  | k + 1 => by
    have ih0 := mancipleref9_canon.mono_l k
    · intro y0 y1 y2
      unfold mancipleref9_canon.l0
      repeat' first
      | (with_reducible exact ih0 _ _ _)
      | (with_reducible exact mancipleref9_bare.mono _ _)
      | (with_reducible exact mancipleref9_run.mono _ _ _)
      | (with_reducible exact LeO.refl _)
      | (with_reducible exact LeO.none _)
      | (with_reducible refine LeO.ite ?_ ?_)
      | (with_reducible refine LeO.bind ?_ (fun _ => ?_))
      | exact ih0 _ _ _
      | exact mancipleref9_bare.mono _ _
      | exact mancipleref9_run.mono _ _ _
      | exact LeO.none _
      | refine LeO.ite ?_ ?_
      | refine LeO.bind ?_ (fun _ => ?_)
theorem mancipleref9_canon.mono : ∀ a0 k, LeO (mancipleref9_canon.f k a0) (mancipleref9_canon.f (k + 1) a0) := by
  intro a0 k
  have ih0 := mancipleref9_canon.mono_l k
  unfold mancipleref9_canon.f
  repeat' first
      | (with_reducible exact ih0 _ _ _)
      | (with_reducible exact mancipleref9_bare.mono _ _)
      | (with_reducible exact mancipleref9_run.mono _ _ _)
      | (with_reducible exact LeO.refl _)
      | (with_reducible exact LeO.none _)
      | (with_reducible refine LeO.ite ?_ ?_)
      | (with_reducible refine LeO.bind ?_ (fun _ => ?_))
      | exact ih0 _ _ _
      | exact mancipleref9_bare.mono _ _
      | exact mancipleref9_run.mono _ _ _
      | exact LeO.none _
      | refine LeO.ite ?_ ?_
      | refine LeO.bind ?_ (fun _ => ?_)
set_option maxHeartbeats 8000000 in
set_option maxRecDepth 100000 in
theorem mancipleref9_canon.calls (k : Nat) (a0 : ByteArray) (r : ByteArray) (w : World) (h : mancipleref9_canon.f k a0 = some r) :
    Calls Tryd.prog 23 #[.string a0] w fun e w' => e = .returned (.string r) ∧ Drawn0 w w' := by
  have H : (mancipleref9_canon.l0 k a0 (⟨#[]⟩ : ByteArray) true) = some r := h
  clear h
  have H' := Aside0.mk H
  clear H
  go_enter Tryd.func23, Tryd.ntmps23
  go_wp2
  go_loopg [0, 3, 4] k (fun kq v0 v3 v4 w' => ∃ (x0_1 : ByteArray) (x3_1 : ByteArray) (x4_1 : Bool), v0 = .string x0_1 ∧ v3 = .string x3_1 ∧ v4 = .bool x4_1 ∧ Aside0 (mancipleref9_canon.l0 kq x0_1 x3_1 x4_1 = some r) ∧ Aside0 (kq ≤ k) ∧ Drawn0 w w')
  case atStart => exact ⟨(a0), ((⟨#[]⟩ : ByteArray)), (true), (by first | rfl | (simp; done) | (simp [*]; done)), (by first | rfl | (simp; done) | (simp [*]; done)), (by first | rfl | (simp; done) | (simp [*]; done)), H', ⟨Nat.le_refl _⟩, by repeat (first | exact Drawn0.refl _ | apply Drawn0.step)⟩
  case round =>
    clear H'
    obtain ⟨x0_1, x3_1, x4_1, rfl, rfl, rfl, HA, HK1, ⟨m1, rfl⟩⟩ := hrel
    cases gk with
    | zero => exact absurd HA.out (by simp [mancipleref9_canon.l0])
    | succ k1 =>
      have H := HA.out
      clear HA
      simp only [mancipleref9_canon.l0] at H
      by_cases c2 : x0_1.toList = ([] : List UInt8)
      · rw [if_pos c2] at H
        have c2b0 : (x0_1.toList == ([] : List UInt8)) = true := beq_iff_eq.mpr c2
        have c2b1 : (x0_1.toList != ([] : List UInt8)) = false := bne_eq_false_iff_eq.mpr c2
        have c2b2 : x0_1.toList.isEmpty = true := List.isEmpty_iff.mpr c2
        clear c2
        obtain rfl := Option.some.inj H
        go_wp2
        go_ret
        exact ⟨by first | rfl | (simp; done) | (simp [*]; done), by repeat (first | exact Drawn0.refl _ | apply Drawn0.step)⟩
      · rw [if_neg c2] at H
        have c2b0 : (x0_1.toList == ([] : List UInt8)) = false := beq_eq_false_iff_ne.mpr c2
        have c2b1 : (x0_1.toList != ([] : List UInt8)) = true := bne_iff_ne.mpr c2
        have c2b2 : x0_1.toList.isEmpty = false := Bool.eq_false_iff.mpr (fun h_ => c2 (List.isEmpty_iff.mp h_))
        replace H := Option.bind_eq_some_iff.mp H
        obtain ⟨⟨t293, t294⟩, A30, H⟩ := H
        replace H : (if x4_1 = true then ((mancipleref9_bare.f k1 t293).bind fun t295 => (if x3_1.size + t295.size ≤ 9223372036854775807 then (mancipleref9_canon.l0 k1 t294 (x3_1 ++ t295) (!x4_1)) else (none))) else (if x3_1.size + t293.size ≤ 9223372036854775807 then (mancipleref9_canon.l0 k1 t294 (x3_1 ++ t293) (!x4_1)) else (none))) = some r := H
        have A3 := Aside0.mk A30
        clear A30
        by_cases c4 : x4_1 = true
        · subst c4
          have H1 : ((mancipleref9_bare.f k1 t293).bind fun t295 => (if x3_1.size + t295.size ≤ 9223372036854775807 then (mancipleref9_canon.l0 k1 t294 (x3_1 ++ t295) (!true)) else (none))) = some r := by rw [if_pos rfl] at H; exact H
          clear H
          have H := H1
          clear H1
          replace H := Option.bind_eq_some_iff.mp H
          obtain ⟨t295, A50, H⟩ := H
          replace H : (if x3_1.size + t295.size ≤ 9223372036854775807 then (mancipleref9_canon.l0 k1 t294 (x3_1 ++ t295) (!true)) else (none)) = some r := H
          have A5 := Aside0.mk A50
          clear A50
          by_cases c6 : x3_1.size + t295.size ≤ 9223372036854775807
          · rw [if_pos c6] at H
            have c6b0 := eq_true c6
            have c6b1 : decide (x3_1.size + t295.size ≤ 9223372036854775807) = true := decide_eq_true c6
            try have c6b2 : (9223372036854775807 < x3_1.size + t295.size) = False := eq_false (Nat.not_lt.2 c6)
            obtain ⟨y296, hy296⟩ : ∃ y_ : ByteArray, y_ = (x3_1 ++ t295) := ⟨_, rfl⟩
            replace H : (mancipleref9_canon.l0 k1 t294 y296 (!true)) = some r := by first | (rw [hy296]; with_reducible exact H) | (have H2_ := (Option.bind_some _ _).symm.trans H; rw [hy296]; with_reducible exact H2_) | (have H2_ := (Option.bind_some _ _).symm.trans H; with_reducible exact H2_) | with_reducible exact H | (rw [hy296]; exact H) | exact H
            have Ny296 := Aside0.mk hy296
            clear hy296
            have Ey296 : x3_1 ++ t295 = y296 := Ny296.out.symm
            have H' := Aside0.mk H
            clear H
            go_wp2_with (first | ((with_reducible refine gate_callee (f := 43) rfl ?_); refine goesL_ (some 11) rfl rfl Tryd.func43 (by kernel_rfl) rfl #[.string x0_1, .bool true] rfl (by (try simp only [List.map_toArray, List.map_cons, List.map_nil]); first | done | rfl | (simp only [List.length_drop, List.length_take]; rfl)) ?_; (with_reducible refine (mancipleref9_run.calls k1 x0_1 true t293 t294 _ A3.out).mono ?_); rintro e w' ⟨rfl, ⟨nd, rfl⟩⟩; refine ⟨_, rfl, ?_⟩) | ((with_reducible refine gate_callee (f := 24) rfl ?_); refine goesL_ (some 16) rfl rfl Tryd.func24 (by kernel_rfl) rfl #[.string t293] rfl (by (try simp only [List.map_toArray, List.map_cons, List.map_nil]); first | done | rfl | (simp only [List.length_drop, List.length_take]; rfl)) ?_; (with_reducible refine (mancipleref9_bare.calls k1 t293 t295 _ A5.out).mono ?_); rintro e w' ⟨rfl, ⟨nd, rfl⟩⟩; refine ⟨_, rfl, ?_⟩))
            go_roundg k1
            case measure => have := HK1.out; omega
            case rel => exact ⟨(t294), (y296), (!true), (by first | rfl | (simp; done) | (simp [*]; done)), (by first | rfl | (simp; done) | (simp [*]; done)), (by first | rfl | (simp; done) | (simp [*]; done)), H', ⟨by have := HK1.out; omega⟩, by repeat (first | exact Drawn0.refl _ | apply Drawn0.step)⟩
          · rw [if_neg c6] at H
            exact absurd H (by simp)
        · replace c4 := Bool.eq_false_iff.mpr c4
          subst c4
          have H1 : (if x3_1.size + t293.size ≤ 9223372036854775807 then (mancipleref9_canon.l0 k1 t294 (x3_1 ++ t293) (!false)) else (none)) = some r := by rw [if_neg (show ¬ (false = true) by decide)] at H; exact H
          clear H
          have H := H1
          clear H1
          by_cases c7 : x3_1.size + t293.size ≤ 9223372036854775807
          · rw [if_pos c7] at H
            have c7b0 := eq_true c7
            have c7b1 : decide (x3_1.size + t293.size ≤ 9223372036854775807) = true := decide_eq_true c7
            try have c7b2 : (9223372036854775807 < x3_1.size + t293.size) = False := eq_false (Nat.not_lt.2 c7)
            obtain ⟨y297, hy297⟩ : ∃ y_ : ByteArray, y_ = (x3_1 ++ t293) := ⟨_, rfl⟩
            replace H : (mancipleref9_canon.l0 k1 t294 y297 (!false)) = some r := by first | (rw [hy297]; with_reducible exact H) | (have H2_ := (Option.bind_some _ _).symm.trans H; rw [hy297]; with_reducible exact H2_) | (have H2_ := (Option.bind_some _ _).symm.trans H; with_reducible exact H2_) | with_reducible exact H | (rw [hy297]; exact H) | exact H
            have Ny297 := Aside0.mk hy297
            clear hy297
            have Ey297 : x3_1 ++ t293 = y297 := Ny297.out.symm
            have H' := Aside0.mk H
            clear H
            go_wp2_with (first | ((with_reducible refine gate_callee (f := 43) rfl ?_); refine goesL_ (some 11) rfl rfl Tryd.func43 (by kernel_rfl) rfl #[.string x0_1, .bool false] rfl (by (try simp only [List.map_toArray, List.map_cons, List.map_nil]); first | done | rfl | (simp only [List.length_drop, List.length_take]; rfl)) ?_; (with_reducible refine (mancipleref9_run.calls k1 x0_1 false t293 t294 _ A3.out).mono ?_); rintro e w' ⟨rfl, ⟨nd, rfl⟩⟩; refine ⟨_, rfl, ?_⟩))
            go_roundg k1
            case measure => have := HK1.out; omega
            case rel => exact ⟨(t294), (y297), (!false), (by first | rfl | (simp; done) | (simp [*]; done)), (by first | rfl | (simp; done) | (simp [*]; done)), (by first | rfl | (simp; done) | (simp [*]; done)), H', ⟨by have := HK1.out; omega⟩, by repeat (first | exact Drawn0.refl _ | apply Drawn0.step)⟩
          · rw [if_neg c7] at H
            exact absurd H (by simp)
end Go.Proofs.YtpijehmhgjkkoaaDoor.Q
namespace Go.Proofs.YtpijehmhgjkkoaaDoor.Q
open Go.RowKit Go.Proofs.YtpijehmhgjkkoaaDoorW.PrintWords Go.Proofs.YtpijehmhgjkkoaaDoorW.PrintLast Go.Proofs.YtpijehmhgjkkoaaDoorW.PrintMore
attribute [local go_sem] max2_int min2_int max_two min_two max_three min_three max_four min_four   -- for this text's walks alone
set_option linter.unusedVariables false
set_option linter.unusedSimpArgs false
/-! ### mancipleref9_Canon: function 11 -/
mutual
def mancipleref9_Canon.j0 : Nat → ByteArray → ByteArray → ByteArray → Bool → Option (ByteArray × Int)
  | 0, _, _, _, _ => none
  | k + 1, x5, x7, x9, x30 => if x30 = true then ((mancipleref9_bare.f k x5).bind fun t305 => (if t305.size + 1 ≤ 9223372036854775807 then ((some (t305 ++ (⟨#[58]⟩ : ByteArray) : ByteArray)).bind fun y306 => (if y306.size + x9.size ≤ 9223372036854775807 then (mancipleref9_Canon.j1 k x7 (y306 ++ x9)) else (none))) else (none))) else (mancipleref9_Canon.j1 k x7 x9)
def mancipleref9_Canon.j1 : Nat → ByteArray → ByteArray → Option (ByteArray × Int)
  | 0, _, _ => none
  | k + 1, x7, x9 => if x7.toList = ([] : List UInt8) then (some (x9, 0)) else ((mancipleref9_canon.f k x7).bind fun t308 => (if t308.toList = ([48] : List UInt8) then (some (x9, 0)) else (if x9.size + 1 ≤ 9223372036854775807 then ((some (x9 ++ (⟨#[45]⟩ : ByteArray) : ByteArray)).bind fun y309 => ((mancipleref9_canon.f k x7).bind fun t310 => (if y309.size + t310.size ≤ 9223372036854775807 then (some ((y309 ++ t310), 0)) else (none)))) else (none))))
end
def mancipleref9_Canon.f (k : Nat) (a0 : ByteArray) : Option (ByteArray × Int) := (mancipleref9_CheckVer.f k a0).bind fun t298 => (if t298 = 0 then ((mancipleref9_parts.f k a0).bind fun bt299 => ((mancipleref9_canon.f k bt299.2.1).bind fun t303 => (if bt299.1.toList = ([] : List UInt8) then (mancipleref9_Canon.j0 k bt299.1 bt299.2.2.1 t303 false) else ((mancipleref9_bare.f k bt299.1).bind fun t304 => (mancipleref9_Canon.j0 k bt299.1 bt299.2.2.1 t303 (t304.toList != ([48] : List UInt8))))))) else (some ((⟨#[]⟩ : ByteArray), t298)))
theorem mancipleref9_Canon.mono_l : ∀ k, (∀ y0 y1 y2 y3, LeO (mancipleref9_Canon.j0 k y0 y1 y2 y3) (mancipleref9_Canon.j0 (k + 1) y0 y1 y2 y3)) ∧ (∀ y0 y1, LeO (mancipleref9_Canon.j1 k y0 y1) (mancipleref9_Canon.j1 (k + 1) y0 y1))
  | 0 => ⟨fun _ _ _ _ r h => by simp [mancipleref9_Canon.j0] at h, fun _ _ r h => by simp [mancipleref9_Canon.j1] at h⟩
  | k + 1 => by
    obtain ⟨ih0, ih1⟩ := mancipleref9_Canon.mono_l k
    refine ⟨?_, ?_⟩
    · intro y0 y1 y2 y3
      unfold mancipleref9_Canon.j0
      repeat' first
      | (with_reducible exact ih0 _ _ _ _)
      | (with_reducible exact ih1 _ _)
      | (with_reducible exact mancipleref9_CheckVer.mono _ _)
      | (with_reducible exact mancipleref9_bare.mono _ _)
      | (with_reducible exact mancipleref9_canon.mono _ _)
      | (with_reducible exact mancipleref9_parts.mono _ _)
      | (with_reducible exact LeO.refl _)
      | (with_reducible exact LeO.none _)
      | (with_reducible refine LeO.ite ?_ ?_)
      | (with_reducible refine LeO.bind ?_ (fun _ => ?_))
      | exact ih0 _ _ _ _
      | exact ih1 _ _
      | exact mancipleref9_CheckVer.mono _ _
      | exact mancipleref9_bare.mono _ _
      | exact mancipleref9_canon.mono _ _
      | exact mancipleref9_parts.mono _ _
      | exact LeO.none _
      | refine LeO.ite ?_ ?_
      | refine LeO.bind ?_ (fun _ => ?_)
    · intro y0 y1
      unfold mancipleref9_Canon.j1
      repeat' first
      | (with_reducible exact ih0 _ _ _ _)
      | (with_reducible exact ih1 _ _)
      | (with_reducible exact mancipleref9_CheckVer.mono _ _)
      | (with_reducible exact mancipleref9_bare.mono _ _)
      | (with_reducible exact mancipleref9_canon.mono _ _)
      | (with_reducible exact mancipleref9_parts.mono _ _)
      | (with_reducible exact LeO.refl _)
      | (with_reducible exact LeO.none _)
      | (with_reducible refine LeO.ite ?_ ?_)
      | (with_reducible refine LeO.bind ?_ (fun _ => ?_))
      | exact ih0 _ _ _ _
      | exact ih1 _ _
      | exact mancipleref9_CheckVer.mono _ _
      | exact mancipleref9_bare.mono _ _
      | exact mancipleref9_canon.mono _ _
      | exact mancipleref9_parts.mono _ _
      | exact LeO.none _
      | refine LeO.ite ?_ ?_
      | refine LeO.bind ?_ (fun _ => ?_)
theorem mancipleref9_Canon.mono : ∀ a0 k, LeO (mancipleref9_Canon.f k a0) (mancipleref9_Canon.f (k + 1) a0) := by
  intro a0 k
  obtain ⟨ih0, ih1⟩ := mancipleref9_Canon.mono_l k
  unfold mancipleref9_Canon.f
  repeat' first
      | (with_reducible exact ih0 _ _ _ _)
      | (with_reducible exact ih1 _ _)
      | (with_reducible exact mancipleref9_CheckVer.mono _ _)
      | (with_reducible exact mancipleref9_bare.mono _ _)
      | (with_reducible exact mancipleref9_canon.mono _ _)
      | (with_reducible exact mancipleref9_parts.mono _ _)
      | (with_reducible exact LeO.refl _)
      | (with_reducible exact LeO.none _)
      | (with_reducible refine LeO.ite ?_ ?_)
      | (with_reducible refine LeO.bind ?_ (fun _ => ?_))
      | exact ih0 _ _ _ _
      | exact ih1 _ _
      | exact mancipleref9_CheckVer.mono _ _
      | exact mancipleref9_bare.mono _ _
      | exact mancipleref9_canon.mono _ _
      | exact mancipleref9_parts.mono _ _
      | exact LeO.none _
      | refine LeO.ite ?_ ?_
      | refine LeO.bind ?_ (fun _ => ?_)
set_option maxHeartbeats 8000000 in
set_option maxRecDepth 100000 in
theorem mancipleref9_Canon.calls (k : Nat) (a0 : ByteArray) (r1 : ByteArray) (r2 : Int) (w : World) (h : mancipleref9_Canon.f k a0 = some (r1, r2)) :
    Calls Tryd.prog 11 #[.string a0] w fun e w' => e = .returned (.tuple #[.string r1, .int .i64 r2]) ∧ Drawn0 w w' := by
  have H : ((mancipleref9_CheckVer.f k a0).bind fun t298 => (if t298 = 0 then ((mancipleref9_parts.f k a0).bind fun bt299 => ((mancipleref9_canon.f k bt299.2.1).bind fun t303 => (if bt299.1.toList = ([] : List UInt8) then (mancipleref9_Canon.j0 k bt299.1 bt299.2.2.1 t303 false) else ((mancipleref9_bare.f k bt299.1).bind fun t304 => (mancipleref9_Canon.j0 k bt299.1 bt299.2.2.1 t303 (t304.toList != ([48] : List UInt8))))))) else (some ((⟨#[]⟩ : ByteArray), t298)))) = some (r1, r2) := h
  clear h
  replace H := Option.bind_eq_some_iff.mp H
  obtain ⟨t298, A20, H⟩ := H
  replace H : (if t298 = 0 then ((mancipleref9_parts.f k a0).bind fun bt299 => ((mancipleref9_canon.f k bt299.2.1).bind fun t303 => (if bt299.1.toList = ([] : List UInt8) then (mancipleref9_Canon.j0 k bt299.1 bt299.2.2.1 t303 false) else ((mancipleref9_bare.f k bt299.1).bind fun t304 => (mancipleref9_Canon.j0 k bt299.1 bt299.2.2.1 t303 (t304.toList != ([48] : List UInt8))))))) else (some ((⟨#[]⟩ : ByteArray), t298))) = some (r1, r2) := H
  have A2 := Aside0.mk A20
  clear A20
  by_cases c3 : t298 = 0
  · rw [if_pos c3] at H
    have c3b0 : (t298 == 0) = true := beq_iff_eq.mpr c3
    have c3b1 : (t298 != 0) = false := bne_eq_false_iff_eq.mpr c3
    clear c3
    replace H := Option.bind_eq_some_iff.mp H
    obtain ⟨⟨t299, t300, t301, t302⟩, A40, H⟩ := H
    replace H : ((mancipleref9_canon.f k t300).bind fun t303 => (if t299.toList = ([] : List UInt8) then (mancipleref9_Canon.j0 k t299 t301 t303 false) else ((mancipleref9_bare.f k t299).bind fun t304 => (mancipleref9_Canon.j0 k t299 t301 t303 (t304.toList != ([48] : List UInt8)))))) = some (r1, r2) := H
    have A4 := Aside0.mk A40
    clear A40
    replace H := Option.bind_eq_some_iff.mp H
    obtain ⟨t303, A50, H⟩ := H
    replace H : (if t299.toList = ([] : List UInt8) then (mancipleref9_Canon.j0 k t299 t301 t303 false) else ((mancipleref9_bare.f k t299).bind fun t304 => (mancipleref9_Canon.j0 k t299 t301 t303 (t304.toList != ([48] : List UInt8))))) = some (r1, r2) := H
    have A5 := Aside0.mk A50
    clear A50
    have HC6 := Aside0.mk H
    clear H
    go_enter Tryd.func11, Tryd.ntmps11
    go_upto_region 6 with (first | ((with_reducible refine gate_callee (f := 12) rfl ?_); refine goesL_ (some 11) rfl rfl Tryd.func12 (by kernel_rfl) rfl #[.string a0] rfl (by (try simp only [List.map_toArray, List.map_cons, List.map_nil]); first | done | rfl | (simp only [List.length_drop, List.length_take]; rfl)) ?_; (with_reducible refine (mancipleref9_CheckVer.calls k a0 t298 _ A2.out).mono ?_); rintro e w' ⟨rfl, ⟨nd, rfl⟩⟩; refine ⟨_, rfl, ?_⟩) | ((with_reducible refine gate_callee (f := 22) rfl ?_); refine goesL_ (some 17) rfl rfl Tryd.func22 (by kernel_rfl) rfl #[.string a0] rfl (by (try simp only [List.map_toArray, List.map_cons, List.map_nil]); first | done | rfl | (simp only [List.length_drop, List.length_take]; rfl)) ?_; (with_reducible refine (mancipleref9_parts.calls k a0 t299 t300 t301 t302 _ A4.out).mono ?_); rintro e w' ⟨rfl, ⟨nd, rfl⟩⟩; refine ⟨_, rfl, ?_⟩) | ((with_reducible refine gate_callee (f := 23) rfl ?_); refine goesL_ (some 23) rfl rfl Tryd.func23 (by kernel_rfl) rfl #[.string t300] rfl (by (try simp only [List.map_toArray, List.map_cons, List.map_nil]); first | done | rfl | (simp only [List.length_drop, List.length_take]; rfl)) ?_; (with_reducible refine (mancipleref9_canon.calls k t300 t303 _ A5.out).mono ?_); rintro e w' ⟨rfl, ⟨nd, rfl⟩⟩; refine ⟨_, rfl, ?_⟩))
    (try simp only [Act.put, List.setIfInBounds_toArray, List.set_cons_zero, List.set_cons_succ])
    go_cut [30] (fun v30 wc => ∃ (kq : Nat) (x30_5 : Bool), v30 = .bool x30_5 ∧ Aside0 (mancipleref9_Canon.j0 kq t299 t301 t303 x30_5 = some (r1, r2)) ∧ Aside0 (kq ≤ k) ∧ Drawn0 w wc)
    case first =>
      have H := HC6.out
      clear HC6
      by_cases c7 : t299.toList = ([] : List UInt8)
      · rw [if_pos c7] at H
        have c7b0 : (t299.toList == ([] : List UInt8)) = true := beq_iff_eq.mpr c7
        have c7b1 : (t299.toList != ([] : List UInt8)) = false := bne_eq_false_iff_eq.mpr c7
        have c7b2 : t299.toList.isEmpty = true := List.isEmpty_iff.mpr c7
        clear c7
        (first | rw [c7b0] | (simp only [i64_w, i32_w]; rw [c7b0]) | rw [c7b2] | skip)
        have H' := Aside0.mk H
        clear H
        go_wp2
        go_meet
        case rel => exact ⟨_, (false), (by first | rfl | (simp; done) | (simp [*]; done)), H', ⟨by first | omega | exact Nat.le_refl _⟩, by repeat (first | exact Drawn0.refl _ | apply Drawn0.step)⟩
      · rw [if_neg c7] at H
        have c7b0 : (t299.toList == ([] : List UInt8)) = false := beq_eq_false_iff_ne.mpr c7
        have c7b1 : (t299.toList != ([] : List UInt8)) = true := bne_iff_ne.mpr c7
        have c7b2 : t299.toList.isEmpty = false := Bool.eq_false_iff.mpr (fun h_ => c7 (List.isEmpty_iff.mp h_))
        (first | rw [c7b0] | (simp only [i64_w, i32_w]; rw [c7b0]) | rw [c7b2] | skip)
        replace H := Option.bind_eq_some_iff.mp H
        obtain ⟨t304, A80, H⟩ := H
        replace H : (mancipleref9_Canon.j0 k t299 t301 t303 (t304.toList != ([48] : List UInt8))) = some (r1, r2) := H
        have A8 := Aside0.mk A80
        clear A80
        have H' := Aside0.mk H
        clear H
        go_wp2_with (first | (go_at_call 24; (with_reducible refine (mancipleref9_bare.calls k t299 t304 _ A8.out).mono ?_); rintro e w' ⟨rfl, ⟨nd, rfl⟩⟩))
        go_meet
        case rel => exact ⟨_, ((t304.toList != ([48] : List UInt8))), (by first | rfl | (simp; done) | (simp [*]; done)), H', ⟨by first | omega | exact Nat.le_refl _⟩, by repeat (first | exact Drawn0.refl _ | apply Drawn0.step)⟩
    case rest =>
      clear HC6
      try clear c1
      try clear c2
      try clear p2
      try clear c3
      try clear c3b0
      try clear c3b1
      try clear c7
      try clear c7b0
      try clear c7b1
      try clear c7b2
      obtain ⟨kq, x30_5, rfl, HA, HJ5, ⟨mc5, rfl⟩⟩ := hcut
      cases kq with
      | zero => exact absurd HA.out (by simp [mancipleref9_Canon.j0])
      | succ kj5 =>
        have H := HA.out
        clear HA
        simp only [mancipleref9_Canon.j0] at H
        have HC9 := Aside0.mk H
        clear H
        go_upto_if 30 with (fail)
        go_cut [9] (fun v9 wc => ∃ (kq : Nat) (x9_8 : ByteArray), v9 = .string x9_8 ∧ Aside0 (mancipleref9_Canon.j1 kq t301 x9_8 = some (r1, r2)) ∧ Aside0 (kq ≤ kj5) ∧ Drawn0 w wc)
        case first =>
          have H := HC9.out
          clear HC9
          by_cases c10 : x30_5 = true
          · subst c10
            have H1 : ((mancipleref9_bare.f kj5 t299).bind fun t305 => (if t305.size + 1 ≤ 9223372036854775807 then ((some (t305 ++ (⟨#[58]⟩ : ByteArray) : ByteArray)).bind fun y306 => (if y306.size + t303.size ≤ 9223372036854775807 then (mancipleref9_Canon.j1 kj5 t301 (y306 ++ t303)) else (none))) else (none))) = some (r1, r2) := by rw [if_pos rfl] at H; exact H
            clear H
            have H := H1
            clear H1
            replace H := Option.bind_eq_some_iff.mp H
            obtain ⟨t305, A110, H⟩ := H
            replace H : (if t305.size + 1 ≤ 9223372036854775807 then ((some (t305 ++ (⟨#[58]⟩ : ByteArray) : ByteArray)).bind fun y306 => (if y306.size + t303.size ≤ 9223372036854775807 then (mancipleref9_Canon.j1 kj5 t301 (y306 ++ t303)) else (none))) else (none)) = some (r1, r2) := H
            have A11 := Aside0.mk A110
            clear A110
            by_cases c12 : t305.size + 1 ≤ 9223372036854775807
            · rw [if_pos c12] at H
              have c12b0 := eq_true c12
              have c12b1 : decide (t305.size + 1 ≤ 9223372036854775807) = true := decide_eq_true c12
              try have c12b2 : (9223372036854775807 < t305.size + 1) = False := eq_false (Nat.not_lt.2 c12)
              obtain ⟨y306, hy306⟩ : ∃ y_ : ByteArray, y_ = (t305 ++ (⟨#[58]⟩ : ByteArray)) := ⟨_, rfl⟩
              replace H : (if y306.size + t303.size ≤ 9223372036854775807 then (mancipleref9_Canon.j1 kj5 t301 (y306 ++ t303)) else (none)) = some (r1, r2) := by first | (rw [hy306]; with_reducible exact H) | (have H2_ := (Option.bind_some _ _).symm.trans H; rw [hy306]; with_reducible exact H2_) | (have H2_ := (Option.bind_some _ _).symm.trans H; with_reducible exact H2_) | with_reducible exact H | (rw [hy306]; exact H) | exact H
              have Ny306 := Aside0.mk hy306
              clear hy306
              have Ey306 : t305 ++ (⟨#[58]⟩ : ByteArray) = y306 := Ny306.out.symm
              by_cases c13 : y306.size + t303.size ≤ 9223372036854775807
              · rw [if_pos c13] at H
                have c13b0 := eq_true c13
                have c13b1 : decide (y306.size + t303.size ≤ 9223372036854775807) = true := decide_eq_true c13
                try have c13b2 : (9223372036854775807 < y306.size + t303.size) = False := eq_false (Nat.not_lt.2 c13)
                obtain ⟨y307, hy307⟩ : ∃ y_ : ByteArray, y_ = (y306 ++ t303) := ⟨_, rfl⟩
                replace H : (mancipleref9_Canon.j1 kj5 t301 y307) = some (r1, r2) := by first | (rw [hy307]; with_reducible exact H) | (have H2_ := (Option.bind_some _ _).symm.trans H; rw [hy307]; with_reducible exact H2_) | (have H2_ := (Option.bind_some _ _).symm.trans H; with_reducible exact H2_) | with_reducible exact H | (rw [hy307]; exact H) | exact H
                have Ny307 := Aside0.mk hy307
                clear hy307
                have Ey307 : y306 ++ t303 = y307 := Ny307.out.symm
                have H' := Aside0.mk H
                clear H
                go_wp2_with (first | ((with_reducible refine gate_callee (f := 24) rfl ?_); refine goesL_ (some 32) rfl rfl Tryd.func24 (by kernel_rfl) rfl #[.string t299] rfl (by (try simp only [List.map_toArray, List.map_cons, List.map_nil]); first | done | rfl | (simp only [List.length_drop, List.length_take]; rfl)) ?_; (with_reducible refine (mancipleref9_bare.calls kj5 t299 t305 _ A11.out).mono ?_); rintro e w' ⟨rfl, ⟨nd, rfl⟩⟩; refine ⟨_, rfl, ?_⟩))
                go_meet
                case rel => exact ⟨_, (y307), (by first | rfl | (simp; done) | (simp [*]; done)), H', ⟨by have := HJ5.out; first | omega | exact Nat.le_refl _⟩, by repeat (first | exact Drawn0.refl _ | apply Drawn0.step)⟩
              · rw [if_neg c13] at H
                exact absurd H (by simp)
            · rw [if_neg c12] at H
              exact absurd H (by simp)
          · replace c10 := Bool.eq_false_iff.mpr c10
            subst c10
            have H1 : (mancipleref9_Canon.j1 kj5 t301 t303) = some (r1, r2) := by rw [if_neg (show ¬ (false = true) by decide)] at H; exact H
            clear H
            have H := H1
            clear H1
            have H' := Aside0.mk H
            clear H
            go_wp2
            go_meet
            case rel => exact ⟨_, (t303), (by first | rfl | (simp; done) | (simp [*]; done)), H', ⟨by have := HJ5.out; first | omega | exact Nat.le_refl _⟩, by repeat (first | exact Drawn0.refl _ | apply Drawn0.step)⟩
        case rest =>
          clear HC9
          try clear c1
          try clear c2
          try clear p2
          try clear c3
          try clear c3b0
          try clear c3b1
          try clear c5
          try clear c7
          try clear c7b0
          try clear c7b1
          try clear c7b2
          try clear c10
          try clear c11
          try clear c12
          try clear c12b0
          try clear c12b1
          try clear c12b2
          try clear c13
          try clear c13b0
          try clear c13b1
          try clear c13b2
          try clear p2
          obtain ⟨kq, x9_8, rfl, HA, HJ8, ⟨mc8, rfl⟩⟩ := hcut
          cases kq with
          | zero => exact absurd HA.out (by simp [mancipleref9_Canon.j1])
          | succ kj8 =>
            have H := HA.out
            clear HA
            simp only [mancipleref9_Canon.j1] at H
            by_cases c14 : t301.toList = ([] : List UInt8)
            · rw [if_pos c14] at H
              have c14b0 : (t301.toList == ([] : List UInt8)) = true := beq_iff_eq.mpr c14
              have c14b1 : (t301.toList != ([] : List UInt8)) = false := bne_eq_false_iff_eq.mpr c14
              have c14b2 : t301.toList.isEmpty = true := List.isEmpty_iff.mpr c14
              clear c14
              simp only [Option.some.injEq, Prod.mk.injEq] at H
              obtain ⟨rfl, rfl⟩ := H
              go_wp2
              go_ret2
              exact ⟨by first | rfl | (simp; done) | (simp [*]; done), by repeat (first | exact Drawn0.refl _ | apply Drawn0.step)⟩
            · rw [if_neg c14] at H
              have c14b0 : (t301.toList == ([] : List UInt8)) = false := beq_eq_false_iff_ne.mpr c14
              have c14b1 : (t301.toList != ([] : List UInt8)) = true := bne_iff_ne.mpr c14
              have c14b2 : t301.toList.isEmpty = false := Bool.eq_false_iff.mpr (fun h_ => c14 (List.isEmpty_iff.mp h_))
              replace H := Option.bind_eq_some_iff.mp H
              obtain ⟨t308, A150, H⟩ := H
              replace H : (if t308.toList = ([48] : List UInt8) then (some (x9_8, 0)) else (if x9_8.size + 1 ≤ 9223372036854775807 then ((some (x9_8 ++ (⟨#[45]⟩ : ByteArray) : ByteArray)).bind fun y309 => ((mancipleref9_canon.f kj8 t301).bind fun t310 => (if y309.size + t310.size ≤ 9223372036854775807 then (some ((y309 ++ t310), 0)) else (none)))) else (none))) = some (r1, r2) := H
              have A15 := Aside0.mk A150
              clear A150
              by_cases c16 : t308.toList = ([48] : List UInt8)
              · rw [if_pos c16] at H
                have c16b0 : (t308.toList == ([48] : List UInt8)) = true := beq_iff_eq.mpr c16
                have c16b1 : (t308.toList != ([48] : List UInt8)) = false := bne_eq_false_iff_eq.mpr c16
                clear c16
                simp only [Option.some.injEq, Prod.mk.injEq] at H
                obtain ⟨rfl, rfl⟩ := H
                go_wp2_with (first | (go_at_call 23; (with_reducible refine (mancipleref9_canon.calls kj8 t301 t308 _ A15.out).mono ?_); rintro e w' ⟨rfl, ⟨nd, rfl⟩⟩))
                go_ret2
                exact ⟨by first | rfl | (simp; done) | (simp [*]; done), by repeat (first | exact Drawn0.refl _ | apply Drawn0.step)⟩
              · rw [if_neg c16] at H
                have c16b0 : (t308.toList == ([48] : List UInt8)) = false := beq_eq_false_iff_ne.mpr c16
                have c16b1 : (t308.toList != ([48] : List UInt8)) = true := bne_iff_ne.mpr c16
                by_cases c17 : x9_8.size + 1 ≤ 9223372036854775807
                · rw [if_pos c17] at H
                  have c17b0 := eq_true c17
                  have c17b1 : decide (x9_8.size + 1 ≤ 9223372036854775807) = true := decide_eq_true c17
                  try have c17b2 : (9223372036854775807 < x9_8.size + 1) = False := eq_false (Nat.not_lt.2 c17)
                  obtain ⟨y309, hy309⟩ : ∃ y_ : ByteArray, y_ = (x9_8 ++ (⟨#[45]⟩ : ByteArray)) := ⟨_, rfl⟩
                  replace H : ((mancipleref9_canon.f kj8 t301).bind fun t310 => (if y309.size + t310.size ≤ 9223372036854775807 then (some ((y309 ++ t310), 0)) else (none))) = some (r1, r2) := by first | (rw [hy309]; with_reducible exact H) | (have H2_ := (Option.bind_some _ _).symm.trans H; rw [hy309]; with_reducible exact H2_) | (have H2_ := (Option.bind_some _ _).symm.trans H; with_reducible exact H2_) | with_reducible exact H | (rw [hy309]; exact H) | exact H
                  have Ny309 := Aside0.mk hy309
                  clear hy309
                  have Ey309 : x9_8 ++ (⟨#[45]⟩ : ByteArray) = y309 := Ny309.out.symm
                  replace H := Option.bind_eq_some_iff.mp H
                  obtain ⟨t310, A180, H⟩ := H
                  replace H : (if y309.size + t310.size ≤ 9223372036854775807 then (some ((y309 ++ t310), 0)) else (none)) = some (r1, r2) := H
                  have A18 := Aside0.mk A180
                  clear A180
                  by_cases c19 : y309.size + t310.size ≤ 9223372036854775807
                  · rw [if_pos c19] at H
                    have c19b0 := eq_true c19
                    have c19b1 : decide (y309.size + t310.size ≤ 9223372036854775807) = true := decide_eq_true c19
                    try have c19b2 : (9223372036854775807 < y309.size + t310.size) = False := eq_false (Nat.not_lt.2 c19)
                    obtain ⟨y311, hy311⟩ : ∃ y_ : ByteArray, y_ = (y309 ++ t310) := ⟨_, rfl⟩
                    replace H : (some (y311, 0)) = some (r1, r2) := by first | (rw [hy311]; with_reducible exact H) | (have H2_ := (Option.bind_some _ _).symm.trans H; rw [hy311]; with_reducible exact H2_) | (have H2_ := (Option.bind_some _ _).symm.trans H; with_reducible exact H2_) | with_reducible exact H | (rw [hy311]; exact H) | exact H
                    have Ny311 := Aside0.mk hy311
                    clear hy311
                    have Ey311 : y309 ++ t310 = y311 := Ny311.out.symm
                    simp only [Option.some.injEq, Prod.mk.injEq] at H
                    obtain ⟨rfl, rfl⟩ := H
                    go_wp2_with (first | (go_at_call 23; (with_reducible refine (mancipleref9_canon.calls kj8 t301 t308 _ A15.out).mono ?_); rintro e w' ⟨rfl, ⟨nd, rfl⟩⟩) | ((with_reducible refine gate_callee (f := 23) rfl ?_); refine goesL_ (some 46) rfl rfl Tryd.func23 (by kernel_rfl) rfl #[.string t301] rfl (by (try simp only [List.map_toArray, List.map_cons, List.map_nil]); first | done | rfl | (simp only [List.length_drop, List.length_take]; rfl)) ?_; (with_reducible refine (mancipleref9_canon.calls kj8 t301 t310 _ A18.out).mono ?_); rintro e w' ⟨rfl, ⟨nd, rfl⟩⟩; refine ⟨_, rfl, ?_⟩))
                    go_ret2
                    exact ⟨by first | rfl | (simp; done) | (simp [*]; done), by repeat (first | exact Drawn0.refl _ | apply Drawn0.step)⟩
                  · rw [if_neg c19] at H
                    exact absurd H (by simp)
                · rw [if_neg c17] at H
                  exact absurd H (by simp)
  · rw [if_neg c3] at H
    have c3b0 : (t298 == 0) = false := beq_eq_false_iff_ne.mpr c3
    have c3b1 : (t298 != 0) = true := bne_iff_ne.mpr c3
    simp only [Option.some.injEq, Prod.mk.injEq] at H
    obtain ⟨rfl, rfl⟩ := H
    go_enter Tryd.func11, Tryd.ntmps11
    go_wp2_with (first | ((with_reducible refine gate_callee (f := 12) rfl ?_); refine goesL_ (some 11) rfl rfl Tryd.func12 (by kernel_rfl) rfl #[.string a0] rfl (by (try simp only [List.map_toArray, List.map_cons, List.map_nil]); first | done | rfl | (simp only [List.length_drop, List.length_take]; rfl)) ?_; (with_reducible refine (mancipleref9_CheckVer.calls k a0 t298 _ A2.out).mono ?_); rintro e w' ⟨rfl, ⟨nd, rfl⟩⟩; refine ⟨_, rfl, ?_⟩))
    go_ret2
    exact ⟨by first | rfl | (simp; done) | (simp [*]; done), by repeat (first | exact Drawn0.refl _ | apply Drawn0.step)⟩
end Go.Proofs.YtpijehmhgjkkoaaDoor.Q
namespace Go.Proofs.YtpijehmhgjkkoaaDoor.Q
open Go.RowKit Go.Proofs.YtpijehmhgjkkoaaDoorW.PrintWords Go.Proofs.YtpijehmhgjkkoaaDoorW.PrintLast Go.Proofs.YtpijehmhgjkkoaaDoorW.PrintMore
attribute [local go_sem] max2_int min2_int max_two min_two max_three min_three max_four min_four   -- for this text's walks alone
set_option linter.unusedVariables false
set_option linter.unusedSimpArgs false
/-! ### mancipleref9_Epoch: function 14 -/
def mancipleref9_Epoch.l0 : Nat → ByteArray → Int → Int → Option (Int)
  | 0, _, _, _ => none
  | k + 1, x3, x7, x8 => if x8 < (x3.size : Int) then (if 0 ≤ x8 then (mancipleref9_Epoch.l0 k x3 (wrap64 ((wrap64 (10 * x7)) + (((bt x3 x8) - 48) % 256))) (wrap64 (x8 + 1))) else (none)) else (some x7)
def mancipleref9_Epoch.f (k : Nat) (a0 : ByteArray) : Option (Int) := (mancipleref9_parts.f k a0).bind fun bt312 => (mancipleref9_Epoch.l0 k bt312.1 0 0)
theorem mancipleref9_Epoch.mono_l : ∀ k, (∀ y0 y1 y2, LeO (mancipleref9_Epoch.l0 k y0 y1 y2) (mancipleref9_Epoch.l0 (k + 1) y0 y1 y2))
  | 0 => fun _ _ _ r h => by simp [mancipleref9_Epoch.l0] at h
  | k + 1 => by
    have ih0 := mancipleref9_Epoch.mono_l k
    · intro y0 y1 y2
      unfold mancipleref9_Epoch.l0
      repeat' first
      | (with_reducible exact ih0 _ _ _)
      | (with_reducible exact mancipleref9_parts.mono _ _)
      | (with_reducible exact LeO.refl _)
      | (with_reducible exact LeO.none _)
      | (with_reducible refine LeO.ite ?_ ?_)
      | (with_reducible refine LeO.bind ?_ (fun _ => ?_))
      | exact ih0 _ _ _
      | exact mancipleref9_parts.mono _ _
      | exact LeO.none _
      | refine LeO.ite ?_ ?_
      | refine LeO.bind ?_ (fun _ => ?_)
theorem mancipleref9_Epoch.mono : ∀ a0 k, LeO (mancipleref9_Epoch.f k a0) (mancipleref9_Epoch.f (k + 1) a0) := by
  intro a0 k
  have ih0 := mancipleref9_Epoch.mono_l k
  unfold mancipleref9_Epoch.f
  repeat' first
      | (with_reducible exact ih0 _ _ _)
      | (with_reducible exact mancipleref9_parts.mono _ _)
      | (with_reducible exact LeO.refl _)
      | (with_reducible exact LeO.none _)
      | (with_reducible refine LeO.ite ?_ ?_)
      | (with_reducible refine LeO.bind ?_ (fun _ => ?_))
      | exact ih0 _ _ _
      | exact mancipleref9_parts.mono _ _
      | exact LeO.none _
      | refine LeO.ite ?_ ?_
      | refine LeO.bind ?_ (fun _ => ?_)
set_option maxHeartbeats 8000000 in
set_option maxRecDepth 100000 in
theorem mancipleref9_Epoch.calls (k : Nat) (a0 : ByteArray) (r : Int) (w : World) (h : mancipleref9_Epoch.f k a0 = some r) :
    Calls Tryd.prog 14 #[.string a0] w fun e w' => e = .returned (.int .i64 r) ∧ Drawn0 w w' := by
  have H : ((mancipleref9_parts.f k a0).bind fun bt312 => (mancipleref9_Epoch.l0 k bt312.1 0 0)) = some r := h
  clear h
  replace H := Option.bind_eq_some_iff.mp H
  obtain ⟨⟨t312, t313, t314, t315⟩, A20, H⟩ := H
  replace H : (mancipleref9_Epoch.l0 k t312 0 0) = some r := H
  have A2 := Aside0.mk A20
  clear A20
  have H' := Aside0.mk H
  clear H
  go_enter Tryd.func14, Tryd.ntmps14
  go_wp2_with (first | ((with_reducible refine gate_callee (f := 22) rfl ?_); refine goesL_ (some 11) rfl rfl Tryd.func22 (by kernel_rfl) rfl #[.string a0] rfl (by (try simp only [List.map_toArray, List.map_cons, List.map_nil]); first | done | rfl | (simp only [List.length_drop, List.length_take]; rfl)) ?_; (with_reducible refine (mancipleref9_parts.calls k a0 t312 t313 t314 t315 _ A2.out).mono ?_); rintro e w' ⟨rfl, ⟨nd, rfl⟩⟩; refine ⟨_, rfl, ?_⟩))
  go_loopg [7, 8] k (fun kq v7 v8 w' => ∃ (x7_1 : Int) (x8_1 : Int), v7 = .int .i64 x7_1 ∧ v8 = .int .i64 x8_1 ∧ Aside0 (mancipleref9_Epoch.l0 kq t312 x7_1 x8_1 = some r) ∧ Aside0 (kq ≤ k) ∧ Drawn0 w w')
  case atStart => exact ⟨(0), (0), (by first | rfl | (simp; done) | (simp [*]; done)), (by first | rfl | (simp; done) | (simp [*]; done)), H', ⟨Nat.le_refl _⟩, by repeat (first | exact Drawn0.refl _ | apply Drawn0.step)⟩
  case round =>
    clear H'
    try clear c1
    try clear c2
    try clear p2
    obtain ⟨x7_1, x8_1, rfl, rfl, HA, HK1, ⟨m1, rfl⟩⟩ := hrel
    cases gk with
    | zero => exact absurd HA.out (by simp [mancipleref9_Epoch.l0])
    | succ k1 =>
      have H := HA.out
      clear HA
      simp only [mancipleref9_Epoch.l0] at H
      by_cases c3 : x8_1 < (t312.size : Int)
      · rw [if_pos c3] at H
        have c3b0 : decide (x8_1 < (t312.size : Int)) = true := decide_eq_true c3
        clear c3
        by_cases c4 : 0 ≤ x8_1
        · rw [if_pos c4] at H
          have c4b0 : decide (0 ≤ x8_1) = true := decide_eq_true c4
          clear c4
          have H' := Aside0.mk H
          clear H
          have p5 : 0 ≤ (x8_1 : Int) := of_decide_eq_true (by first | (with_reducible assumption) | assumption)
          have q5 : x8_1 < (t312.size : Int) := of_decide_eq_true (by first | (with_reducible assumption) | assumption)
          have hx5 := bt_at t312 x8_1
          replace p5 := eq_true p5
          replace q5 := eq_true q5
          go_wp2
          go_roundg k1
          case measure => have := HK1.out; omega
          case rel => exact ⟨(wrap64 ((wrap64 (10 * x7_1)) + (((bt t312 x8_1) - 48) % 256))), (wrap64 (x8_1 + 1)), (by first | rfl | (simp; done) | (simp [*]; done)), (by first | rfl | (simp; done) | (simp [*]; done)), H', ⟨by have := HK1.out; omega⟩, by repeat (first | exact Drawn0.refl _ | apply Drawn0.step)⟩
        · rw [if_neg c4] at H
          exact absurd H (by simp)
      · rw [if_neg c3] at H
        have c3b0 : decide (x8_1 < (t312.size : Int)) = false := decide_eq_false c3
        clear c3
        obtain rfl := Option.some.inj H
        go_wp2
        go_ret
        exact ⟨by first | rfl | (simp; done) | (simp [*]; done), by repeat (first | exact Drawn0.refl _ | apply Drawn0.step)⟩
end Go.Proofs.YtpijehmhgjkkoaaDoor.Q
namespace Go.Proofs.YtpijehmhgjkkoaaDoor.Q
open Go.RowKit Go.Proofs.YtpijehmhgjkkoaaDoorW.PrintWords Go.Proofs.YtpijehmhgjkkoaaDoorW.PrintLast Go.Proofs.YtpijehmhgjkkoaaDoorW.PrintMore
attribute [local go_sem] max2_int min2_int max_two min_two max_three min_three max_four min_four   -- for this text's walks alone
set_option linter.unusedVariables false
set_option linter.unusedSimpArgs false
/-! ### mancipleref9_sign: function 31 -/
def mancipleref9_sign.f (a0 : Int) (a1 : Int) : Option (Int) := if a0 < a1 then (some (-1)) else (if a0 > a1 then (some 1) else (some 0))
set_option maxHeartbeats 8000000 in
set_option maxRecDepth 100000 in
theorem mancipleref9_sign.calls (a0 : Int) (a1 : Int) (r : Int) (w : World) (h : mancipleref9_sign.f a0 a1 = some r) :
    Calls Tryd.prog 31 #[.int .i64 a0, .int .i64 a1] w fun e w' => e = .returned (.int .i64 r) ∧ Drawn0 w w' := by
  have H : (if a0 < a1 then (some (-1)) else (if a0 > a1 then (some 1) else (some 0))) = some r := h
  clear h
  by_cases c3 : a0 < a1
  · rw [if_pos c3] at H
    have c3b0 : decide (a0 < a1) = true := decide_eq_true c3
    clear c3
    obtain rfl := Option.some.inj H
    go_enter Tryd.func31, Tryd.ntmps31
    go_wp2
    go_ret
    exact ⟨by first | rfl | (simp; done) | (simp [*]; done), by repeat (first | exact Drawn0.refl _ | apply Drawn0.step)⟩
  · rw [if_neg c3] at H
    have c3b0 : decide (a0 < a1) = false := decide_eq_false c3
    clear c3
    by_cases c4 : a0 > a1
    · rw [if_pos c4] at H
      have c4b0 : decide (a1 < a0) = true := decide_eq_true c4
      clear c4
      obtain rfl := Option.some.inj H
      go_enter Tryd.func31, Tryd.ntmps31
      go_wp2
      go_ret
      exact ⟨by first | rfl | (simp; done) | (simp [*]; done), by repeat (first | exact Drawn0.refl _ | apply Drawn0.step)⟩
    · rw [if_neg c4] at H
      have c4b0 : decide (a1 < a0) = false := decide_eq_false c4
      clear c4
      obtain rfl := Option.some.inj H
      go_enter Tryd.func31, Tryd.ntmps31
      go_wp2
      go_ret
      exact ⟨by first | rfl | (simp; done) | (simp [*]; done), by repeat (first | exact Drawn0.refl _ | apply Drawn0.step)⟩
end Go.Proofs.YtpijehmhgjkkoaaDoor.Q
namespace Go.Proofs.YtpijehmhgjkkoaaDoor.Q
open Go.RowKit Go.Proofs.YtpijehmhgjkkoaaDoorW.PrintWords Go.Proofs.YtpijehmhgjkkoaaDoorW.PrintLast Go.Proofs.YtpijehmhgjkkoaaDoorW.PrintMore
attribute [local go_sem] max2_int min2_int max_two min_two max_three min_three max_four min_four   -- for this text's walks alone
set_option linter.unusedVariables false
set_option linter.unusedSimpArgs false
/-! ### mancipleref9_digits: function 48 -/
mutual
def mancipleref9_digits.j0 : Nat → ByteArray → ByteArray → Option (Int)
  | 0, _, _ => none
  | k + 1, x0, x1 => if x1.toList = ([] : List UInt8) then (mancipleref9_digits.j1 k x0 (⟨#[48]⟩ : ByteArray)) else (mancipleref9_digits.j1 k x0 x1)
def mancipleref9_digits.j1 : Nat → ByteArray → ByteArray → Option (Int)
  | 0, _, _ => none
  | k + 1, x0, x1 => if (x0.size : Int) = (x1.size : Int) then (if (Op.bytesLess x0.toList x1.toList) = true then (some (-1)) else (if x0.toList = x1.toList then (some 0) else (some 1))) else ((mancipleref9_sign.f (x0.size : Int) (x1.size : Int)).bind fun t331 => (some t331))
end
def mancipleref9_digits.f (k : Nat) (a0 : ByteArray) (a1 : ByteArray) : Option (Int) := (mancipleref9_bare.f k a0).bind fun t329 => ((mancipleref9_bare.f k a1).bind fun t330 => (if t329.toList = ([] : List UInt8) then (mancipleref9_digits.j0 k (⟨#[48]⟩ : ByteArray) t330) else (mancipleref9_digits.j0 k t329 t330)))
theorem mancipleref9_digits.mono_l : ∀ k, (∀ y0 y1, LeO (mancipleref9_digits.j0 k y0 y1) (mancipleref9_digits.j0 (k + 1) y0 y1)) ∧ (∀ y0 y1, LeO (mancipleref9_digits.j1 k y0 y1) (mancipleref9_digits.j1 (k + 1) y0 y1))
  | 0 => ⟨fun _ _ r h => by simp [mancipleref9_digits.j0] at h, fun _ _ r h => by simp [mancipleref9_digits.j1] at h⟩
  | k + 1 => by
    obtain ⟨ih0, ih1⟩ := mancipleref9_digits.mono_l k
    refine ⟨?_, ?_⟩
    · intro y0 y1
      unfold mancipleref9_digits.j0
      repeat' first
      | (with_reducible exact ih0 _ _)
      | (with_reducible exact ih1 _ _)
      | (with_reducible exact mancipleref9_bare.mono _ _)
      | (with_reducible exact LeO.refl _)
      | (with_reducible exact LeO.none _)
      | (with_reducible refine LeO.ite ?_ ?_)
      | (with_reducible refine LeO.bind ?_ (fun _ => ?_))
      | exact ih0 _ _
      | exact ih1 _ _
      | exact mancipleref9_bare.mono _ _
      | exact LeO.none _
      | refine LeO.ite ?_ ?_
      | refine LeO.bind ?_ (fun _ => ?_)
    · intro y0 y1
      unfold mancipleref9_digits.j1
      repeat' first
      | (with_reducible exact ih0 _ _)
      | (with_reducible exact ih1 _ _)
      | (with_reducible exact mancipleref9_bare.mono _ _)
      | (with_reducible exact LeO.refl _)
      | (with_reducible exact LeO.none _)
      | (with_reducible refine LeO.ite ?_ ?_)
      | (with_reducible refine LeO.bind ?_ (fun _ => ?_))
      | exact ih0 _ _
      | exact ih1 _ _
      | exact mancipleref9_bare.mono _ _
      | exact LeO.none _
      | refine LeO.ite ?_ ?_
      | refine LeO.bind ?_ (fun _ => ?_)
theorem mancipleref9_digits.mono : ∀ a0 a1 k, LeO (mancipleref9_digits.f k a0 a1) (mancipleref9_digits.f (k + 1) a0 a1) := by
  intro a0 a1 k
  obtain ⟨ih0, ih1⟩ := mancipleref9_digits.mono_l k
  unfold mancipleref9_digits.f
  repeat' first
      | (with_reducible exact ih0 _ _)
      | (with_reducible exact ih1 _ _)
      | (with_reducible exact mancipleref9_bare.mono _ _)
      | (with_reducible exact LeO.refl _)
      | (with_reducible exact LeO.none _)
      | (with_reducible refine LeO.ite ?_ ?_)
      | (with_reducible refine LeO.bind ?_ (fun _ => ?_))
      | exact ih0 _ _
      | exact ih1 _ _
      | exact mancipleref9_bare.mono _ _
      | exact LeO.none _
      | refine LeO.ite ?_ ?_
      | refine LeO.bind ?_ (fun _ => ?_)
set_option maxHeartbeats 8000000 in
set_option maxRecDepth 100000 in
theorem mancipleref9_digits.calls (k : Nat) (a0 : ByteArray) (a1 : ByteArray) (r : Int) (w : World) (h : mancipleref9_digits.f k a0 a1 = some r) :
    Calls Tryd.prog 48 #[.string a0, .string a1] w fun e w' => e = .returned (.int .i64 r) ∧ Drawn0 w w' := by
  have H : ((mancipleref9_bare.f k a0).bind fun t329 => ((mancipleref9_bare.f k a1).bind fun t330 => (if t329.toList = ([] : List UInt8) then (mancipleref9_digits.j0 k (⟨#[48]⟩ : ByteArray) t330) else (mancipleref9_digits.j0 k t329 t330)))) = some r := h
  clear h
  replace H := Option.bind_eq_some_iff.mp H
  obtain ⟨t329, A30, H⟩ := H
  replace H : ((mancipleref9_bare.f k a1).bind fun t330 => (if t329.toList = ([] : List UInt8) then (mancipleref9_digits.j0 k (⟨#[48]⟩ : ByteArray) t330) else (mancipleref9_digits.j0 k t329 t330))) = some r := H
  have A3 := Aside0.mk A30
  clear A30
  replace H := Option.bind_eq_some_iff.mp H
  obtain ⟨t330, A40, H⟩ := H
  replace H : (if t329.toList = ([] : List UInt8) then (mancipleref9_digits.j0 k (⟨#[48]⟩ : ByteArray) t330) else (mancipleref9_digits.j0 k t329 t330)) = some r := H
  have A4 := Aside0.mk A40
  clear A40
  have HC5 := Aside0.mk H
  clear H
  go_enter Tryd.func48, Tryd.ntmps48
  go_upto_if 10 with (first | ((with_reducible refine gate_callee (f := 24) rfl ?_); refine goesL_ (some 6) rfl rfl Tryd.func24 (by kernel_rfl) rfl #[.string a0] rfl (by (try simp only [List.map_toArray, List.map_cons, List.map_nil]); first | done | rfl | (simp only [List.length_drop, List.length_take]; rfl)) ?_; (with_reducible refine (mancipleref9_bare.calls k a0 t329 _ A3.out).mono ?_); rintro e w' ⟨rfl, ⟨nd, rfl⟩⟩; refine ⟨_, rfl, ?_⟩) | ((with_reducible refine gate_callee (f := 24) rfl ?_); refine goesL_ (some 8) rfl rfl Tryd.func24 (by kernel_rfl) rfl #[.string a1] rfl (by (try simp only [List.map_toArray, List.map_cons, List.map_nil]); first | done | rfl | (simp only [List.length_drop, List.length_take]; rfl)) ?_; (with_reducible refine (mancipleref9_bare.calls k a1 t330 _ A4.out).mono ?_); rintro e w' ⟨rfl, ⟨nd, rfl⟩⟩; refine ⟨_, rfl, ?_⟩))
  (try simp only [Act.put, List.setIfInBounds_toArray, List.set_cons_zero, List.set_cons_succ])
  go_cut [0] (fun v0 wc => ∃ (kq : Nat) (x0_4 : ByteArray), v0 = .string x0_4 ∧ Aside0 (mancipleref9_digits.j0 kq x0_4 t330 = some r) ∧ Aside0 (kq ≤ k) ∧ Drawn0 w wc)
  case first =>
    have H := HC5.out
    clear HC5
    by_cases c6 : t329.toList = ([] : List UInt8)
    · rw [if_pos c6] at H
      have c6b0 : (t329.toList == ([] : List UInt8)) = true := beq_iff_eq.mpr c6
      have c6b1 : (t329.toList != ([] : List UInt8)) = false := bne_eq_false_iff_eq.mpr c6
      have c6b2 : t329.toList.isEmpty = true := List.isEmpty_iff.mpr c6
      clear c6
      (first | rw [c6b0] | (simp only [i64_w, i32_w]; rw [c6b0]) | rw [c6b2] | skip)
      have H' := Aside0.mk H
      clear H
      go_wp2
      go_meet
      case rel => exact ⟨_, ((⟨#[48]⟩ : ByteArray)), (by first | rfl | (simp; done) | (simp [*]; done)), H', ⟨by first | omega | exact Nat.le_refl _⟩, by repeat (first | exact Drawn0.refl _ | apply Drawn0.step)⟩
    · rw [if_neg c6] at H
      have c6b0 : (t329.toList == ([] : List UInt8)) = false := beq_eq_false_iff_ne.mpr c6
      have c6b1 : (t329.toList != ([] : List UInt8)) = true := bne_iff_ne.mpr c6
      have c6b2 : t329.toList.isEmpty = false := Bool.eq_false_iff.mpr (fun h_ => c6 (List.isEmpty_iff.mp h_))
      (first | rw [c6b0] | (simp only [i64_w, i32_w]; rw [c6b0]) | rw [c6b2] | skip)
      have H' := Aside0.mk H
      clear H
      go_wp2
      go_meet
      case rel => exact ⟨_, (t329), (by first | rfl | (simp; done) | (simp [*]; done)), H', ⟨by first | omega | exact Nat.le_refl _⟩, by repeat (first | exact Drawn0.refl _ | apply Drawn0.step)⟩
  case rest =>
    clear HC5
    try clear c2
    try clear p2
    try clear c4
    try clear c6
    try clear c6b0
    try clear c6b1
    try clear c6b2
    obtain ⟨kq, x0_4, rfl, HA, HJ4, ⟨mc4, rfl⟩⟩ := hcut
    cases kq with
    | zero => exact absurd HA.out (by simp [mancipleref9_digits.j0])
    | succ kj4 =>
      have H := HA.out
      clear HA
      simp only [mancipleref9_digits.j0] at H
      have HC7 := Aside0.mk H
      clear H
      go_upto_if 12 with (fail)
      go_cut [1] (fun v1 wc => ∃ (kq : Nat) (x1_6 : ByteArray), v1 = .string x1_6 ∧ Aside0 (mancipleref9_digits.j1 kq x0_4 x1_6 = some r) ∧ Aside0 (kq ≤ kj4) ∧ Drawn0 w wc)
      case first =>
        have H := HC7.out
        clear HC7
        by_cases c8 : t330.toList = ([] : List UInt8)
        · rw [if_pos c8] at H
          have c8b0 : (t330.toList == ([] : List UInt8)) = true := beq_iff_eq.mpr c8
          have c8b1 : (t330.toList != ([] : List UInt8)) = false := bne_eq_false_iff_eq.mpr c8
          have c8b2 : t330.toList.isEmpty = true := List.isEmpty_iff.mpr c8
          clear c8
          (first | rw [c8b0] | (simp only [i64_w, i32_w]; rw [c8b0]) | rw [c8b2] | skip)
          have H' := Aside0.mk H
          clear H
          go_wp2
          go_meet
          case rel => exact ⟨_, ((⟨#[48]⟩ : ByteArray)), (by first | rfl | (simp; done) | (simp [*]; done)), H', ⟨by have := HJ4.out; first | omega | exact Nat.le_refl _⟩, by repeat (first | exact Drawn0.refl _ | apply Drawn0.step)⟩
        · rw [if_neg c8] at H
          have c8b0 : (t330.toList == ([] : List UInt8)) = false := beq_eq_false_iff_ne.mpr c8
          have c8b1 : (t330.toList != ([] : List UInt8)) = true := bne_iff_ne.mpr c8
          have c8b2 : t330.toList.isEmpty = false := Bool.eq_false_iff.mpr (fun h_ => c8 (List.isEmpty_iff.mp h_))
          (first | rw [c8b0] | (simp only [i64_w, i32_w]; rw [c8b0]) | rw [c8b2] | skip)
          have H' := Aside0.mk H
          clear H
          go_wp2
          go_meet
          case rel => exact ⟨_, (t330), (by first | rfl | (simp; done) | (simp [*]; done)), H', ⟨by have := HJ4.out; first | omega | exact Nat.le_refl _⟩, by repeat (first | exact Drawn0.refl _ | apply Drawn0.step)⟩
      case rest =>
        clear HC7
        try clear c2
        try clear p2
        try clear c4
        try clear c6
        try clear c6b0
        try clear c6b1
        try clear c6b2
        try clear c8
        try clear c8b0
        try clear c8b1
        try clear c8b2
        try clear p2
        obtain ⟨kq, x1_6, rfl, HA, HJ6, ⟨mc6, rfl⟩⟩ := hcut
        cases kq with
        | zero => exact absurd HA.out (by simp [mancipleref9_digits.j1])
        | succ kj6 =>
          have H := HA.out
          clear HA
          simp only [mancipleref9_digits.j1] at H
          by_cases c9 : (x0_4.size : Int) = (x1_6.size : Int)
          · rw [if_pos c9] at H
            have c9b0 : ((x0_4.size : Int) == (x1_6.size : Int)) = true := beq_iff_eq.mpr c9
            have c9b1 : ((x0_4.size : Int) != (x1_6.size : Int)) = false := bne_eq_false_iff_eq.mpr c9
            have c9b2 : (x0_4.size == x1_6.size) = true := by first | simpa using c9 | (simp at c9 ⊢; omega)
            clear c9
            by_cases c10 : (Op.bytesLess x0_4.toList x1_6.toList) = true
            · rw [if_pos c10] at H
              have c10b0 : (Op.bytesLess x0_4.toList x1_6.toList) = true := c10
              clear c10
              obtain rfl := Option.some.inj H
              go_wp2
              go_ret
              exact ⟨by first | rfl | (simp; done) | (simp [*]; done), by repeat (first | exact Drawn0.refl _ | apply Drawn0.step)⟩
            · rw [if_neg c10] at H
              have c10b0 : (Op.bytesLess x0_4.toList x1_6.toList) = false := by simpa using c10
              clear c10
              by_cases c11 : x0_4.toList = x1_6.toList
              · rw [if_pos c11] at H
                have c11b0 : (x0_4.toList == x1_6.toList) = true := beq_iff_eq.mpr c11
                have c11b1 : (x0_4.toList != x1_6.toList) = false := bne_eq_false_iff_eq.mpr c11
                clear c11
                obtain rfl := Option.some.inj H
                go_wp2
                go_ret
                exact ⟨by first | rfl | (simp; done) | (simp [*]; done), by repeat (first | exact Drawn0.refl _ | apply Drawn0.step)⟩
              · rw [if_neg c11] at H
                have c11b0 : (x0_4.toList == x1_6.toList) = false := beq_eq_false_iff_ne.mpr c11
                have c11b1 : (x0_4.toList != x1_6.toList) = true := bne_iff_ne.mpr c11
                obtain rfl := Option.some.inj H
                go_wp2
                go_ret
                exact ⟨by first | rfl | (simp; done) | (simp [*]; done), by repeat (first | exact Drawn0.refl _ | apply Drawn0.step)⟩
          · rw [if_neg c9] at H
            have c9b0 : ((x0_4.size : Int) == (x1_6.size : Int)) = false := beq_eq_false_iff_ne.mpr c9
            have c9b1 : ((x0_4.size : Int) != (x1_6.size : Int)) = true := bne_iff_ne.mpr c9
            have c9b2 : (x0_4.size == x1_6.size) = false := by first | simpa using c9 | (simp at c9 ⊢; omega)
            replace H := Option.bind_eq_some_iff.mp H
            obtain ⟨t331, A120, H⟩ := H
            replace H : (some t331) = some r := H
            have A12 := Aside0.mk A120
            clear A120
            obtain rfl := Option.some.inj H
            go_wp2_with (first | ((with_reducible refine gate_callee (f := 31) rfl ?_); refine goesL_ (some 22) rfl rfl Tryd.func31 (by kernel_rfl) rfl #[.int .i64 (x0_4.size : Int), .int .i64 (x1_6.size : Int)] rfl (by (try simp only [List.map_toArray, List.map_cons, List.map_nil]); first | done | rfl | (simp only [List.length_drop, List.length_take]; rfl)) ?_; (with_reducible refine (mancipleref9_sign.calls (x0_4.size : Int) (x1_6.size : Int) t331 _ A12.out).mono ?_); rintro e w' ⟨rfl, ⟨nd, rfl⟩⟩; refine ⟨_, rfl, ?_⟩))
            go_ret
            exact ⟨by first | rfl | (simp; done) | (simp [*]; done), by repeat (first | exact Drawn0.refl _ | apply Drawn0.step)⟩
end Go.Proofs.YtpijehmhgjkkoaaDoor.Q
namespace Go.Proofs.YtpijehmhgjkkoaaDoor.Q
open Go.RowKit Go.Proofs.YtpijehmhgjkkoaaDoorW.PrintWords Go.Proofs.YtpijehmhgjkkoaaDoorW.PrintLast Go.Proofs.YtpijehmhgjkkoaaDoorW.PrintMore
attribute [local go_sem] max2_int min2_int max_two min_two max_three min_three max_four min_four   -- for this text's walks alone
set_option linter.unusedVariables false
set_option linter.unusedSimpArgs false
/-! ### mancipleref9_mark: function 66 -/
def mancipleref9_mark.f (a0 : ByteArray) (a1 : Int) : Option (Int) := if a1 ≥ (a0.size : Int) then (some 0) else (if 0 ≤ a1 then (if a1 < (a0.size : Int) then (if (bt a0 a1) = 126 then (some (-1)) else ((mancipleref9_letter.f (bt a0 a1)).bind fun t332 => (if t332 = true then (some (wrap64 (bt a0 a1))) else (some (wrap64 (256 + (wrap64 (bt a0 a1)))))))) else (none)) else (none))
set_option maxHeartbeats 8000000 in
set_option maxRecDepth 100000 in
theorem mancipleref9_mark.calls (a0 : ByteArray) (a1 : Int) (r : Int) (w : World) (h : mancipleref9_mark.f a0 a1 = some r) :
    Calls Tryd.prog 66 #[.string a0, .int .i64 a1] w fun e w' => e = .returned (.int .i64 r) ∧ Drawn0 w w' := by
  have H : (if a1 ≥ (a0.size : Int) then (some 0) else (if 0 ≤ a1 then (if a1 < (a0.size : Int) then (if (bt a0 a1) = 126 then (some (-1)) else ((mancipleref9_letter.f (bt a0 a1)).bind fun t332 => (if t332 = true then (some (wrap64 (bt a0 a1))) else (some (wrap64 (256 + (wrap64 (bt a0 a1)))))))) else (none)) else (none))) = some r := h
  clear h
  by_cases c3 : a1 ≥ (a0.size : Int)
  · rw [if_pos c3] at H
    have c3b0 : decide ((a0.size : Int) ≤ a1) = true := decide_eq_true c3
    clear c3
    obtain rfl := Option.some.inj H
    go_enter Tryd.func66, Tryd.ntmps66
    go_wp2
    go_ret
    exact ⟨by first | rfl | (simp; done) | (simp [*]; done), by repeat (first | exact Drawn0.refl _ | apply Drawn0.step)⟩
  · rw [if_neg c3] at H
    have c3b0 : decide ((a0.size : Int) ≤ a1) = false := decide_eq_false c3
    clear c3
    by_cases c4 : 0 ≤ a1
    · rw [if_pos c4] at H
      have c4b0 : decide (0 ≤ a1) = true := decide_eq_true c4
      clear c4
      by_cases c5 : a1 < (a0.size : Int)
      · rw [if_pos c5] at H
        have c5b0 : decide (a1 < (a0.size : Int)) = true := decide_eq_true c5
        clear c5
        by_cases c7 : (bt a0 a1) = 126
        · rw [if_pos c7] at H
          have c7b0 : ((bt a0 a1) == 126) = true := beq_iff_eq.mpr c7
          have c7b1 : ((bt a0 a1) != 126) = false := bne_eq_false_iff_eq.mpr c7
          clear c7
          obtain rfl := Option.some.inj H
          have p6 : 0 ≤ (a1 : Int) := of_decide_eq_true (by first | (with_reducible assumption) | assumption)
          have q6 : a1 < (a0.size : Int) := of_decide_eq_true (by first | (with_reducible assumption) | assumption)
          have hx6 := bt_at a0 a1
          replace p6 := eq_true p6
          replace q6 := eq_true q6
          go_enter Tryd.func66, Tryd.ntmps66
          go_wp2
          go_ret
          exact ⟨by first | rfl | (simp; done) | (simp [*]; done), by repeat (first | exact Drawn0.refl _ | apply Drawn0.step)⟩
        · rw [if_neg c7] at H
          have c7b0 : ((bt a0 a1) == 126) = false := beq_eq_false_iff_ne.mpr c7
          have c7b1 : ((bt a0 a1) != 126) = true := bne_iff_ne.mpr c7
          replace H := Option.bind_eq_some_iff.mp H
          obtain ⟨t332, A90, H⟩ := H
          replace H : (if t332 = true then (some (wrap64 (bt a0 a1))) else (some (wrap64 (256 + (wrap64 (bt a0 a1)))))) = some r := H
          have A9 := Aside0.mk A90
          clear A90
          by_cases c10 : t332 = true
          · subst c10
            have H1 : (some (wrap64 (bt a0 a1))) = some r := by rw [if_pos rfl] at H; exact H
            clear H
            have H := H1
            clear H1
            obtain rfl := Option.some.inj H
            have p6 : 0 ≤ (a1 : Int) := of_decide_eq_true (by first | (with_reducible assumption) | assumption)
            have q6 : a1 < (a0.size : Int) := of_decide_eq_true (by first | (with_reducible assumption) | assumption)
            have hx6 := bt_at a0 a1
            replace p6 := eq_true p6
            replace q6 := eq_true q6
            have p8 : 0 ≤ (a1 : Int) := of_decide_eq_true (by first | (with_reducible assumption) | assumption)
            have q8 : a1 < (a0.size : Int) := of_decide_eq_true (by first | (with_reducible assumption) | assumption)
            have hx8 := bt_at a0 a1
            replace p8 := eq_true p8
            replace q8 := eq_true q8
            go_enter Tryd.func66, Tryd.ntmps66
            go_wp2_with (first | ((with_reducible refine gate_callee (f := 61) rfl ?_); refine goesL_ (some 18) rfl rfl Tryd.func61 (by kernel_rfl) rfl #[.int .u8 (bt a0 a1)] rfl (by (try simp only [List.map_toArray, List.map_cons, List.map_nil]); first | done | rfl | (simp only [List.length_drop, List.length_take]; rfl)) ?_; (with_reducible refine (mancipleref9_letter.calls (bt a0 a1) true _ A9.out).mono ?_); rintro e w' ⟨rfl, ⟨nd, rfl⟩⟩; refine ⟨_, rfl, ?_⟩; have p11 : 0 ≤ (a1 : Int) := of_decide_eq_true (by first | (with_reducible assumption) | assumption); have q11 : a1 < (a0.size : Int) := of_decide_eq_true (by first | (with_reducible assumption) | assumption); have hx11 := bt_at a0 a1; replace p11 := eq_true p11; replace q11 := eq_true q11))
            go_ret
            exact ⟨by first | rfl | (simp; done) | (simp [*]; done), by repeat (first | exact Drawn0.refl _ | apply Drawn0.step)⟩
          · replace c10 := Bool.eq_false_iff.mpr c10
            subst c10
            have H1 : (some (wrap64 (256 + (wrap64 (bt a0 a1))))) = some r := by rw [if_neg (show ¬ (false = true) by decide)] at H; exact H
            clear H
            have H := H1
            clear H1
            obtain rfl := Option.some.inj H
            have p6 : 0 ≤ (a1 : Int) := of_decide_eq_true (by first | (with_reducible assumption) | assumption)
            have q6 : a1 < (a0.size : Int) := of_decide_eq_true (by first | (with_reducible assumption) | assumption)
            have hx6 := bt_at a0 a1
            replace p6 := eq_true p6
            replace q6 := eq_true q6
            have p8 : 0 ≤ (a1 : Int) := of_decide_eq_true (by first | (with_reducible assumption) | assumption)
            have q8 : a1 < (a0.size : Int) := of_decide_eq_true (by first | (with_reducible assumption) | assumption)
            have hx8 := bt_at a0 a1
            replace p8 := eq_true p8
            replace q8 := eq_true q8
            go_enter Tryd.func66, Tryd.ntmps66
            go_wp2_with (first | ((with_reducible refine gate_callee (f := 61) rfl ?_); refine goesL_ (some 18) rfl rfl Tryd.func61 (by kernel_rfl) rfl #[.int .u8 (bt a0 a1)] rfl (by (try simp only [List.map_toArray, List.map_cons, List.map_nil]); first | done | rfl | (simp only [List.length_drop, List.length_take]; rfl)) ?_; (with_reducible refine (mancipleref9_letter.calls (bt a0 a1) false _ A9.out).mono ?_); rintro e w' ⟨rfl, ⟨nd, rfl⟩⟩; refine ⟨_, rfl, ?_⟩; have p12 : 0 ≤ (a1 : Int) := of_decide_eq_true (by first | (with_reducible assumption) | assumption); have q12 : a1 < (a0.size : Int) := of_decide_eq_true (by first | (with_reducible assumption) | assumption); have hx12 := bt_at a0 a1; replace p12 := eq_true p12; replace q12 := eq_true q12))
            go_ret
            exact ⟨by first | rfl | (simp; done) | (simp [*]; done), by repeat (first | exact Drawn0.refl _ | apply Drawn0.step)⟩
      · rw [if_neg c5] at H
        exact absurd H (by simp)
    · rw [if_neg c4] at H
      exact absurd H (by simp)
end Go.Proofs.YtpijehmhgjkkoaaDoor.Q
namespace Go.Proofs.YtpijehmhgjkkoaaDoor.Q
open Go.RowKit Go.Proofs.YtpijehmhgjkkoaaDoorW.PrintWords Go.Proofs.YtpijehmhgjkkoaaDoorW.PrintLast Go.Proofs.YtpijehmhgjkkoaaDoorW.PrintMore
attribute [local go_sem] max2_int min2_int max_two min_two max_three min_three max_four min_four   -- for this text's walks alone
set_option linter.unusedVariables false
set_option linter.unusedSimpArgs false
/-! ### mancipleref9_others: function 49 -/
mutual
def mancipleref9_others.l0 : Nat → ByteArray → ByteArray → Int → Option (Int)
  | 0, _, _, _ => none
  | k + 1, x0, x1, x5 => if x5 < (x0.size : Int) then (mancipleref9_others.j1 k x0 x1 x5 true) else (mancipleref9_others.j1 k x0 x1 x5 (decide (x5 < (x1.size : Int))))
def mancipleref9_others.j1 : Nat → ByteArray → ByteArray → Int → Bool → Option (Int)
  | 0, _, _, _, _ => none
  | k + 1, x0, x1, x5, x16 => if x16 = true then ((mancipleref9_mark.f x0 x5).bind fun t333 => ((mancipleref9_mark.f x1 x5).bind fun t334 => ((mancipleref9_sign.f t333 t334).bind fun t335 => (if t335 = 0 then (mancipleref9_others.l0 k x0 x1 (wrap64 (x5 + 1))) else (some t335))))) else (some 0)
end
def mancipleref9_others.f (k : Nat) (a0 : ByteArray) (a1 : ByteArray) : Option (Int) := mancipleref9_others.l0 k a0 a1 0
theorem mancipleref9_others.mono_l : ∀ k, (∀ y0 y1 y2, LeO (mancipleref9_others.l0 k y0 y1 y2) (mancipleref9_others.l0 (k + 1) y0 y1 y2)) ∧ (∀ y0 y1 y2 y3, LeO (mancipleref9_others.j1 k y0 y1 y2 y3) (mancipleref9_others.j1 (k + 1) y0 y1 y2 y3))
  | 0 => ⟨fun _ _ _ r h => by simp [mancipleref9_others.l0] at h, fun _ _ _ _ r h => by simp [mancipleref9_others.j1] at h⟩
  | k + 1 => by
    obtain ⟨ih0, ih1⟩ := mancipleref9_others.mono_l k
    refine ⟨?_, ?_⟩
    · intro y0 y1 y2
      unfold mancipleref9_others.l0
      repeat' first
      | (with_reducible exact ih0 _ _ _)
      | (with_reducible exact ih1 _ _ _ _)
      | (with_reducible exact LeO.refl _)
      | (with_reducible exact LeO.none _)
      | (with_reducible refine LeO.ite ?_ ?_)
      | (with_reducible refine LeO.bind ?_ (fun _ => ?_))
      | exact ih0 _ _ _
      | exact ih1 _ _ _ _
      | exact LeO.none _
      | refine LeO.ite ?_ ?_
      | refine LeO.bind ?_ (fun _ => ?_)
    · intro y0 y1 y2 y3
      unfold mancipleref9_others.j1
      repeat' first
      | (with_reducible exact ih0 _ _ _)
      | (with_reducible exact ih1 _ _ _ _)
      | (with_reducible exact LeO.refl _)
      | (with_reducible exact LeO.none _)
      | (with_reducible refine LeO.ite ?_ ?_)
      | (with_reducible refine LeO.bind ?_ (fun _ => ?_))
      | exact ih0 _ _ _
      | exact ih1 _ _ _ _
      | exact LeO.none _
      | refine LeO.ite ?_ ?_
      | refine LeO.bind ?_ (fun _ => ?_)
theorem mancipleref9_others.mono : ∀ a0 a1 k, LeO (mancipleref9_others.f k a0 a1) (mancipleref9_others.f (k + 1) a0 a1) := by
  intro a0 a1 k
  obtain ⟨ih0, ih1⟩ := mancipleref9_others.mono_l k
  unfold mancipleref9_others.f
  repeat' first
      | (with_reducible exact ih0 _ _ _)
      | (with_reducible exact ih1 _ _ _ _)
      | (with_reducible exact LeO.refl _)
      | (with_reducible exact LeO.none _)
      | (with_reducible refine LeO.ite ?_ ?_)
      | (with_reducible refine LeO.bind ?_ (fun _ => ?_))
      | exact ih0 _ _ _
      | exact ih1 _ _ _ _
      | exact LeO.none _
      | refine LeO.ite ?_ ?_
      | refine LeO.bind ?_ (fun _ => ?_)
set_option maxHeartbeats 8000000 in
set_option maxRecDepth 100000 in
theorem mancipleref9_others.calls (k : Nat) (a0 : ByteArray) (a1 : ByteArray) (r : Int) (w : World) (h : mancipleref9_others.f k a0 a1 = some r) :
    Calls Tryd.prog 49 #[.string a0, .string a1] w fun e w' => e = .returned (.int .i64 r) ∧ Drawn0 w w' := by
  have H : (mancipleref9_others.l0 k a0 a1 0) = some r := h
  clear h
  have H' := Aside0.mk H
  clear H
  go_enter Tryd.func49, Tryd.ntmps49
  go_wp2
  go_loopg [5] k (fun kq v5 w' => ∃ (x5_1 : Int), v5 = .int .i64 x5_1 ∧ Aside0 (mancipleref9_others.l0 kq a0 a1 x5_1 = some r) ∧ Aside0 (kq ≤ k) ∧ Drawn0 w w')
  case atStart => exact ⟨(0), (by first | rfl | (simp; done) | (simp [*]; done)), H', ⟨Nat.le_refl _⟩, by repeat (first | exact Drawn0.refl _ | apply Drawn0.step)⟩
  case round =>
    clear H'
    try clear p2
    obtain ⟨x5_1, rfl, HA, HK1, ⟨m1, rfl⟩⟩ := hrel
    cases gk with
    | zero => exact absurd HA.out (by simp [mancipleref9_others.l0])
    | succ k1 =>
      have H := HA.out
      clear HA
      simp only [mancipleref9_others.l0] at H
      have HC3 := Aside0.mk H
      clear H
      go_upto_region 2 with (fail)
      go_cut [16] (fun v16 wc => ∃ (kq : Nat) (x16_2 : Bool), v16 = .bool x16_2 ∧ Aside0 (mancipleref9_others.j1 kq a0 a1 x5_1 x16_2 = some r) ∧ Aside0 (kq ≤ k1) ∧ Drawn0 w wc)
      case first =>
        have H := HC3.out
        clear HC3
        by_cases c4 : x5_1 < (a0.size : Int)
        · rw [if_pos c4] at H
          have c4b0 : decide (x5_1 < (a0.size : Int)) = true := decide_eq_true c4
          clear c4
          (first | rw [c4b0] | (simp only [i64_w, i32_w]; rw [c4b0]) | rw [c4b2] | skip)
          have H' := Aside0.mk H
          clear H
          go_wp2
          go_meet
          case rel => exact ⟨_, (true), (by first | rfl | (simp; done) | (simp [*]; done)), H', ⟨by have := HK1.out; first | omega | exact Nat.le_refl _⟩, by repeat (first | exact Drawn0.refl _ | apply Drawn0.step)⟩
        · rw [if_neg c4] at H
          have c4b0 : decide (x5_1 < (a0.size : Int)) = false := decide_eq_false c4
          clear c4
          (first | rw [c4b0] | (simp only [i64_w, i32_w]; rw [c4b0]) | rw [c4b2] | skip)
          have H' := Aside0.mk H
          clear H
          go_wp2
          go_meet
          case rel => exact ⟨_, (decide (x5_1 < (a1.size : Int))), (by first | rfl | (simp; done) | (simp [*]; done)), H', ⟨by have := HK1.out; first | omega | exact Nat.le_refl _⟩, by repeat (first | exact Drawn0.refl _ | apply Drawn0.step)⟩
      case rest =>
        clear HC3
        try clear p2
        try clear c4
        try clear c4b0
        try clear c4b2
        try clear p2
        obtain ⟨kq, x16_2, rfl, HA, HJ2, ⟨mc2, rfl⟩⟩ := hcut
        cases kq with
        | zero => exact absurd HA.out (by simp [mancipleref9_others.j1])
        | succ kj2 =>
          have H := HA.out
          clear HA
          simp only [mancipleref9_others.j1] at H
          by_cases c5 : x16_2 = true
          · subst c5
            have H1 : ((mancipleref9_mark.f a0 x5_1).bind fun t333 => ((mancipleref9_mark.f a1 x5_1).bind fun t334 => ((mancipleref9_sign.f t333 t334).bind fun t335 => (if t335 = 0 then (mancipleref9_others.l0 kj2 a0 a1 (wrap64 (x5_1 + 1))) else (some t335))))) = some r := by rw [if_pos rfl] at H; exact H
            clear H
            have H := H1
            clear H1
            replace H := Option.bind_eq_some_iff.mp H
            obtain ⟨t333, A60, H⟩ := H
            replace H : ((mancipleref9_mark.f a1 x5_1).bind fun t334 => ((mancipleref9_sign.f t333 t334).bind fun t335 => (if t335 = 0 then (mancipleref9_others.l0 kj2 a0 a1 (wrap64 (x5_1 + 1))) else (some t335)))) = some r := H
            have A6 := Aside0.mk A60
            clear A60
            replace H := Option.bind_eq_some_iff.mp H
            obtain ⟨t334, A70, H⟩ := H
            replace H : ((mancipleref9_sign.f t333 t334).bind fun t335 => (if t335 = 0 then (mancipleref9_others.l0 kj2 a0 a1 (wrap64 (x5_1 + 1))) else (some t335))) = some r := H
            have A7 := Aside0.mk A70
            clear A70
            replace H := Option.bind_eq_some_iff.mp H
            obtain ⟨t335, A80, H⟩ := H
            replace H : (if t335 = 0 then (mancipleref9_others.l0 kj2 a0 a1 (wrap64 (x5_1 + 1))) else (some t335)) = some r := H
            have A8 := Aside0.mk A80
            clear A80
            by_cases c9 : t335 = 0
            · rw [if_pos c9] at H
              have c9b0 : (t335 == 0) = true := beq_iff_eq.mpr c9
              have c9b1 : (t335 != 0) = false := bne_eq_false_iff_eq.mpr c9
              clear c9
              have H' := Aside0.mk H
              clear H
              go_wp2_with (first | ((with_reducible refine gate_callee (f := 66) rfl ?_); refine goesL_ (some 21) rfl rfl Tryd.func66 (by kernel_rfl) rfl #[.string a0, .int .i64 x5_1] rfl (by (try simp only [List.map_toArray, List.map_cons, List.map_nil]); first | done | rfl | (simp only [List.length_drop, List.length_take]; rfl)) ?_; (with_reducible refine (mancipleref9_mark.calls a0 x5_1 t333 _ A6.out).mono ?_); rintro e w' ⟨rfl, ⟨nd, rfl⟩⟩; refine ⟨_, rfl, ?_⟩) | ((with_reducible refine gate_callee (f := 66) rfl ?_); refine goesL_ (some 24) rfl rfl Tryd.func66 (by kernel_rfl) rfl #[.string a1, .int .i64 x5_1] rfl (by (try simp only [List.map_toArray, List.map_cons, List.map_nil]); first | done | rfl | (simp only [List.length_drop, List.length_take]; rfl)) ?_; (with_reducible refine (mancipleref9_mark.calls a1 x5_1 t334 _ A7.out).mono ?_); rintro e w' ⟨rfl, ⟨nd, rfl⟩⟩; refine ⟨_, rfl, ?_⟩) | ((with_reducible refine gate_callee (f := 31) rfl ?_); refine goesL_ (some 25) rfl rfl Tryd.func31 (by kernel_rfl) rfl #[.int .i64 t333, .int .i64 t334] rfl (by (try simp only [List.map_toArray, List.map_cons, List.map_nil]); first | done | rfl | (simp only [List.length_drop, List.length_take]; rfl)) ?_; (with_reducible refine (mancipleref9_sign.calls t333 t334 t335 _ A8.out).mono ?_); rintro e w' ⟨rfl, ⟨nd, rfl⟩⟩; refine ⟨_, rfl, ?_⟩))
              go_roundg kj2
              case measure => have := HK1.out; have := HJ2.out; omega
              case rel => exact ⟨(wrap64 (x5_1 + 1)), (by first | rfl | (simp; done) | (simp [*]; done)), H', ⟨by have := HK1.out; have := HJ2.out; omega⟩, by repeat (first | exact Drawn0.refl _ | apply Drawn0.step)⟩
            · rw [if_neg c9] at H
              have c9b0 : (t335 == 0) = false := beq_eq_false_iff_ne.mpr c9
              have c9b1 : (t335 != 0) = true := bne_iff_ne.mpr c9
              obtain rfl := Option.some.inj H
              go_wp2_with (first | ((with_reducible refine gate_callee (f := 66) rfl ?_); refine goesL_ (some 21) rfl rfl Tryd.func66 (by kernel_rfl) rfl #[.string a0, .int .i64 x5_1] rfl (by (try simp only [List.map_toArray, List.map_cons, List.map_nil]); first | done | rfl | (simp only [List.length_drop, List.length_take]; rfl)) ?_; (with_reducible refine (mancipleref9_mark.calls a0 x5_1 t333 _ A6.out).mono ?_); rintro e w' ⟨rfl, ⟨nd, rfl⟩⟩; refine ⟨_, rfl, ?_⟩) | ((with_reducible refine gate_callee (f := 66) rfl ?_); refine goesL_ (some 24) rfl rfl Tryd.func66 (by kernel_rfl) rfl #[.string a1, .int .i64 x5_1] rfl (by (try simp only [List.map_toArray, List.map_cons, List.map_nil]); first | done | rfl | (simp only [List.length_drop, List.length_take]; rfl)) ?_; (with_reducible refine (mancipleref9_mark.calls a1 x5_1 t334 _ A7.out).mono ?_); rintro e w' ⟨rfl, ⟨nd, rfl⟩⟩; refine ⟨_, rfl, ?_⟩) | ((with_reducible refine gate_callee (f := 31) rfl ?_); refine goesL_ (some 25) rfl rfl Tryd.func31 (by kernel_rfl) rfl #[.int .i64 t333, .int .i64 t334] rfl (by (try simp only [List.map_toArray, List.map_cons, List.map_nil]); first | done | rfl | (simp only [List.length_drop, List.length_take]; rfl)) ?_; (with_reducible refine (mancipleref9_sign.calls t333 t334 t335 _ A8.out).mono ?_); rintro e w' ⟨rfl, ⟨nd, rfl⟩⟩; refine ⟨_, rfl, ?_⟩))
              go_ret
              exact ⟨by first | rfl | (simp; done) | (simp [*]; done), by repeat (first | exact Drawn0.refl _ | apply Drawn0.step)⟩
          · replace c5 := Bool.eq_false_iff.mpr c5
            subst c5
            have H1 : (some 0) = some r := by rw [if_neg (show ¬ (false = true) by decide)] at H; exact H
            clear H
            have H := H1
            clear H1
            obtain rfl := Option.some.inj H
            go_wp2
            go_ret
            exact ⟨by first | rfl | (simp; done) | (simp [*]; done), by repeat (first | exact Drawn0.refl _ | apply Drawn0.step)⟩
end Go.Proofs.YtpijehmhgjkkoaaDoor.Q
namespace Go.Proofs.YtpijehmhgjkkoaaDoor.Q
open Go.RowKit Go.Proofs.YtpijehmhgjkkoaaDoorW.PrintWords Go.Proofs.YtpijehmhgjkkoaaDoorW.PrintLast Go.Proofs.YtpijehmhgjkkoaaDoorW.PrintMore
attribute [local go_sem] max2_int min2_int max_two min_two max_three min_three max_four min_four   -- for this text's walks alone
set_option linter.unusedVariables false
set_option linter.unusedSimpArgs false
/-! ### mancipleref9_held: function 32 -/
mutual
def mancipleref9_held.l0 : Nat → ByteArray → ByteArray → Option (Int)
  | 0, _, _ => none
  | k + 1, x0, x1 => if x0.toList = ([] : List UInt8) then (mancipleref9_held.j1 k x0 x1 (!x1.toList.isEmpty)) else (mancipleref9_held.j1 k x0 x1 true)
def mancipleref9_held.j1 : Nat → ByteArray → ByteArray → Bool → Option (Int)
  | 0, _, _, _ => none
  | k + 1, x0, x1, x13 => if x13 = true then ((mancipleref9_run.f k x0 true).bind fun bt336 => ((mancipleref9_run.f k x1 true).bind fun bt338 => ((mancipleref9_digits.f k bt336.1 bt338.1).bind fun t340 => (if t340 = 0 then ((mancipleref9_run.f k bt336.2 false).bind fun bt341 => ((mancipleref9_run.f k bt338.2 false).bind fun bt343 => ((mancipleref9_others.f k bt341.1 bt343.1).bind fun t345 => (if t345 = 0 then (mancipleref9_held.l0 k bt341.2 bt343.2) else (some t345))))) else (some t340))))) else (some 0)
end
def mancipleref9_held.f (k : Nat) (a0 : ByteArray) (a1 : ByteArray) : Option (Int) := mancipleref9_held.l0 k a0 a1
theorem mancipleref9_held.mono_l : ∀ k, (∀ y0 y1, LeO (mancipleref9_held.l0 k y0 y1) (mancipleref9_held.l0 (k + 1) y0 y1)) ∧ (∀ y0 y1 y2, LeO (mancipleref9_held.j1 k y0 y1 y2) (mancipleref9_held.j1 (k + 1) y0 y1 y2))
  | 0 => ⟨fun _ _ r h => by simp [mancipleref9_held.l0] at h, fun _ _ _ r h => by simp [mancipleref9_held.j1] at h⟩
  | k + 1 => by
    obtain ⟨ih0, ih1⟩ := mancipleref9_held.mono_l k
    refine ⟨?_, ?_⟩
    · intro y0 y1
      unfold mancipleref9_held.l0
      repeat' first
      | (with_reducible exact ih0 _ _)
      | (with_reducible exact ih1 _ _ _)
      | (with_reducible exact mancipleref9_digits.mono _ _ _)
      | (with_reducible exact mancipleref9_others.mono _ _ _)
      | (with_reducible exact mancipleref9_run.mono _ _ _)
      | (with_reducible exact LeO.refl _)
      | (with_reducible exact LeO.none _)
      | (with_reducible refine LeO.ite ?_ ?_)
      | (with_reducible refine LeO.bind ?_ (fun _ => ?_))
      | exact ih0 _ _
      | exact ih1 _ _ _
      | exact mancipleref9_digits.mono _ _ _
      | exact mancipleref9_others.mono _ _ _
      | exact mancipleref9_run.mono _ _ _
      | exact LeO.none _
      | refine LeO.ite ?_ ?_
      | refine LeO.bind ?_ (fun _ => ?_)
    · intro y0 y1 y2
      unfold mancipleref9_held.j1
      repeat' first
      | (with_reducible exact ih0 _ _)
      | (with_reducible exact ih1 _ _ _)
      | (with_reducible exact mancipleref9_digits.mono _ _ _)
      | (with_reducible exact mancipleref9_others.mono _ _ _)
      | (with_reducible exact mancipleref9_run.mono _ _ _)
      | (with_reducible exact LeO.refl _)
      | (with_reducible exact LeO.none _)
      | (with_reducible refine LeO.ite ?_ ?_)
      | (with_reducible refine LeO.bind ?_ (fun _ => ?_))
      | exact ih0 _ _
      | exact ih1 _ _ _
      | exact mancipleref9_digits.mono _ _ _
      | exact mancipleref9_others.mono _ _ _
      | exact mancipleref9_run.mono _ _ _
      | exact LeO.none _
      | refine LeO.ite ?_ ?_
      | refine LeO.bind ?_ (fun _ => ?_)
theorem mancipleref9_held.mono : ∀ a0 a1 k, LeO (mancipleref9_held.f k a0 a1) (mancipleref9_held.f (k + 1) a0 a1) := by
  intro a0 a1 k
  obtain ⟨ih0, ih1⟩ := mancipleref9_held.mono_l k
  unfold mancipleref9_held.f
  repeat' first
      | (with_reducible exact ih0 _ _)
      | (with_reducible exact ih1 _ _ _)
      | (with_reducible exact mancipleref9_digits.mono _ _ _)
      | (with_reducible exact mancipleref9_others.mono _ _ _)
      | (with_reducible exact mancipleref9_run.mono _ _ _)
      | (with_reducible exact LeO.refl _)
      | (with_reducible exact LeO.none _)
      | (with_reducible refine LeO.ite ?_ ?_)
      | (with_reducible refine LeO.bind ?_ (fun _ => ?_))
      | exact ih0 _ _
      | exact ih1 _ _ _
      | exact mancipleref9_digits.mono _ _ _
      | exact mancipleref9_others.mono _ _ _
      | exact mancipleref9_run.mono _ _ _
      | exact LeO.none _
      | refine LeO.ite ?_ ?_
      | refine LeO.bind ?_ (fun _ => ?_)
set_option maxHeartbeats 8000000 in
set_option maxRecDepth 100000 in
theorem mancipleref9_held.calls (k : Nat) (a0 : ByteArray) (a1 : ByteArray) (r : Int) (w : World) (h : mancipleref9_held.f k a0 a1 = some r) :
    Calls Tryd.prog 32 #[.string a0, .string a1] w fun e w' => e = .returned (.int .i64 r) ∧ Drawn0 w w' := by
  have H : (mancipleref9_held.l0 k a0 a1) = some r := h
  clear h
  have H' := Aside0.mk H
  clear H
  go_enter Tryd.func32, Tryd.ntmps32
  go_wp2
  go_loopg [0, 1] k (fun kq v0 v1 w' => ∃ (x0_1 : ByteArray) (x1_1 : ByteArray), v0 = .string x0_1 ∧ v1 = .string x1_1 ∧ Aside0 (mancipleref9_held.l0 kq x0_1 x1_1 = some r) ∧ Aside0 (kq ≤ k) ∧ Drawn0 w w')
  case atStart => exact ⟨(a0), (a1), (by first | rfl | (simp; done) | (simp [*]; done)), (by first | rfl | (simp; done) | (simp [*]; done)), H', ⟨Nat.le_refl _⟩, by repeat (first | exact Drawn0.refl _ | apply Drawn0.step)⟩
  case round =>
    clear H'
    try clear p2
    obtain ⟨x0_1, x1_1, rfl, rfl, HA, HK1, ⟨m1, rfl⟩⟩ := hrel
    cases gk with
    | zero => exact absurd HA.out (by simp [mancipleref9_held.l0])
    | succ k1 =>
      have H := HA.out
      clear HA
      simp only [mancipleref9_held.l0] at H
      have HC3 := Aside0.mk H
      clear H
      go_upto_region 1 with (fail)
      go_cut [13] (fun v13 wc => ∃ (kq : Nat) (x13_2 : Bool), v13 = .bool x13_2 ∧ Aside0 (mancipleref9_held.j1 kq x0_1 x1_1 x13_2 = some r) ∧ Aside0 (kq ≤ k1) ∧ Drawn0 w wc)
      case first =>
        have H := HC3.out
        clear HC3
        by_cases c4 : x0_1.toList = ([] : List UInt8)
        · rw [if_pos c4] at H
          have c4b0 : (x0_1.toList == ([] : List UInt8)) = true := beq_iff_eq.mpr c4
          have c4b1 : (x0_1.toList != ([] : List UInt8)) = false := bne_eq_false_iff_eq.mpr c4
          have c4b2 : x0_1.toList.isEmpty = true := List.isEmpty_iff.mpr c4
          clear c4
          (first | rw [c4b0] | (simp only [i64_w, i32_w]; rw [c4b0]) | rw [c4b2] | skip)
          have H' := Aside0.mk H
          clear H
          go_wp2
          go_meet
          case rel => exact ⟨_, (!x1_1.toList.isEmpty), (by first | rfl | (simp; done) | (simp [*]; done)), H', ⟨by have := HK1.out; first | omega | exact Nat.le_refl _⟩, by repeat (first | exact Drawn0.refl _ | apply Drawn0.step)⟩
        · rw [if_neg c4] at H
          have c4b0 : (x0_1.toList == ([] : List UInt8)) = false := beq_eq_false_iff_ne.mpr c4
          have c4b1 : (x0_1.toList != ([] : List UInt8)) = true := bne_iff_ne.mpr c4
          have c4b2 : x0_1.toList.isEmpty = false := Bool.eq_false_iff.mpr (fun h_ => c4 (List.isEmpty_iff.mp h_))
          (first | rw [c4b0] | (simp only [i64_w, i32_w]; rw [c4b0]) | rw [c4b2] | skip)
          have H' := Aside0.mk H
          clear H
          go_wp2
          go_meet
          case rel => exact ⟨_, (true), (by first | rfl | (simp; done) | (simp [*]; done)), H', ⟨by have := HK1.out; first | omega | exact Nat.le_refl _⟩, by repeat (first | exact Drawn0.refl _ | apply Drawn0.step)⟩
      case rest =>
        clear HC3
        try clear p2
        try clear c3
        try clear c4
        try clear c4b0
        try clear c4b1
        try clear c4b2
        try clear p2
        obtain ⟨kq, x13_2, rfl, HA, HJ2, ⟨mc2, rfl⟩⟩ := hcut
        cases kq with
        | zero => exact absurd HA.out (by simp [mancipleref9_held.j1])
        | succ kj2 =>
          have H := HA.out
          clear HA
          simp only [mancipleref9_held.j1] at H
          by_cases c5 : x13_2 = true
          · subst c5
            have H1 : ((mancipleref9_run.f kj2 x0_1 true).bind fun bt336 => ((mancipleref9_run.f kj2 x1_1 true).bind fun bt338 => ((mancipleref9_digits.f kj2 bt336.1 bt338.1).bind fun t340 => (if t340 = 0 then ((mancipleref9_run.f kj2 bt336.2 false).bind fun bt341 => ((mancipleref9_run.f kj2 bt338.2 false).bind fun bt343 => ((mancipleref9_others.f kj2 bt341.1 bt343.1).bind fun t345 => (if t345 = 0 then (mancipleref9_held.l0 kj2 bt341.2 bt343.2) else (some t345))))) else (some t340))))) = some r := by rw [if_pos rfl] at H; exact H
            clear H
            have H := H1
            clear H1
            replace H := Option.bind_eq_some_iff.mp H
            obtain ⟨⟨t336, t337⟩, A60, H⟩ := H
            replace H : ((mancipleref9_run.f kj2 x1_1 true).bind fun bt338 => ((mancipleref9_digits.f kj2 t336 bt338.1).bind fun t340 => (if t340 = 0 then ((mancipleref9_run.f kj2 t337 false).bind fun bt341 => ((mancipleref9_run.f kj2 bt338.2 false).bind fun bt343 => ((mancipleref9_others.f kj2 bt341.1 bt343.1).bind fun t345 => (if t345 = 0 then (mancipleref9_held.l0 kj2 bt341.2 bt343.2) else (some t345))))) else (some t340)))) = some r := H
            have A6 := Aside0.mk A60
            clear A60
            replace H := Option.bind_eq_some_iff.mp H
            obtain ⟨⟨t338, t339⟩, A70, H⟩ := H
            replace H : ((mancipleref9_digits.f kj2 t336 t338).bind fun t340 => (if t340 = 0 then ((mancipleref9_run.f kj2 t337 false).bind fun bt341 => ((mancipleref9_run.f kj2 t339 false).bind fun bt343 => ((mancipleref9_others.f kj2 bt341.1 bt343.1).bind fun t345 => (if t345 = 0 then (mancipleref9_held.l0 kj2 bt341.2 bt343.2) else (some t345))))) else (some t340))) = some r := H
            have A7 := Aside0.mk A70
            clear A70
            replace H := Option.bind_eq_some_iff.mp H
            obtain ⟨t340, A80, H⟩ := H
            replace H : (if t340 = 0 then ((mancipleref9_run.f kj2 t337 false).bind fun bt341 => ((mancipleref9_run.f kj2 t339 false).bind fun bt343 => ((mancipleref9_others.f kj2 bt341.1 bt343.1).bind fun t345 => (if t345 = 0 then (mancipleref9_held.l0 kj2 bt341.2 bt343.2) else (some t345))))) else (some t340)) = some r := H
            have A8 := Aside0.mk A80
            clear A80
            by_cases c9 : t340 = 0
            · rw [if_pos c9] at H
              have c9b0 : (t340 == 0) = true := beq_iff_eq.mpr c9
              have c9b1 : (t340 != 0) = false := bne_eq_false_iff_eq.mpr c9
              clear c9
              replace H := Option.bind_eq_some_iff.mp H
              obtain ⟨⟨t341, t342⟩, A100, H⟩ := H
              replace H : ((mancipleref9_run.f kj2 t339 false).bind fun bt343 => ((mancipleref9_others.f kj2 t341 bt343.1).bind fun t345 => (if t345 = 0 then (mancipleref9_held.l0 kj2 t342 bt343.2) else (some t345)))) = some r := H
              have A10 := Aside0.mk A100
              clear A100
              replace H := Option.bind_eq_some_iff.mp H
              obtain ⟨⟨t343, t344⟩, A110, H⟩ := H
              replace H : ((mancipleref9_others.f kj2 t341 t343).bind fun t345 => (if t345 = 0 then (mancipleref9_held.l0 kj2 t342 t344) else (some t345))) = some r := H
              have A11 := Aside0.mk A110
              clear A110
              replace H := Option.bind_eq_some_iff.mp H
              obtain ⟨t345, A120, H⟩ := H
              replace H : (if t345 = 0 then (mancipleref9_held.l0 kj2 t342 t344) else (some t345)) = some r := H
              have A12 := Aside0.mk A120
              clear A120
              by_cases c13 : t345 = 0
              · rw [if_pos c13] at H
                have c13b0 : (t345 == 0) = true := beq_iff_eq.mpr c13
                have c13b1 : (t345 != 0) = false := bne_eq_false_iff_eq.mpr c13
                clear c13
                have H' := Aside0.mk H
                clear H
                go_wp2_with (first | ((with_reducible refine gate_callee (f := 43) rfl ?_); refine goesL_ (some 16) rfl rfl Tryd.func43 (by kernel_rfl) rfl #[.string x0_1, .bool true] rfl (by (try simp only [List.map_toArray, List.map_cons, List.map_nil]); first | done | rfl | (simp only [List.length_drop, List.length_take]; rfl)) ?_; (with_reducible refine (mancipleref9_run.calls kj2 x0_1 true t336 t337 _ A6.out).mono ?_); rintro e w' ⟨rfl, ⟨nd, rfl⟩⟩; refine ⟨_, rfl, ?_⟩) | ((with_reducible refine gate_callee (f := 43) rfl ?_); refine goesL_ (some 21) rfl rfl Tryd.func43 (by kernel_rfl) rfl #[.string x1_1, .bool true] rfl (by (try simp only [List.map_toArray, List.map_cons, List.map_nil]); first | done | rfl | (simp only [List.length_drop, List.length_take]; rfl)) ?_; (with_reducible refine (mancipleref9_run.calls kj2 x1_1 true t338 t339 _ A7.out).mono ?_); rintro e w' ⟨rfl, ⟨nd, rfl⟩⟩; refine ⟨_, rfl, ?_⟩) | ((with_reducible refine gate_callee (f := 48) rfl ?_); refine goesL_ (some 26) rfl rfl Tryd.func48 (by kernel_rfl) rfl #[.string t336, .string t338] rfl (by (try simp only [List.map_toArray, List.map_cons, List.map_nil]); first | done | rfl | (simp only [List.length_drop, List.length_take]; rfl)) ?_; (with_reducible refine (mancipleref9_digits.calls kj2 t336 t338 t340 _ A8.out).mono ?_); rintro e w' ⟨rfl, ⟨nd, rfl⟩⟩; refine ⟨_, rfl, ?_⟩) | ((with_reducible refine gate_callee (f := 43) rfl ?_); refine goesL_ (some 32) rfl rfl Tryd.func43 (by kernel_rfl) rfl #[.string t337, .bool false] rfl (by (try simp only [List.map_toArray, List.map_cons, List.map_nil]); first | done | rfl | (simp only [List.length_drop, List.length_take]; rfl)) ?_; (with_reducible refine (mancipleref9_run.calls kj2 t337 false t341 t342 _ A10.out).mono ?_); rintro e w' ⟨rfl, ⟨nd, rfl⟩⟩; refine ⟨_, rfl, ?_⟩) | ((with_reducible refine gate_callee (f := 43) rfl ?_); refine goesL_ (some 37) rfl rfl Tryd.func43 (by kernel_rfl) rfl #[.string t339, .bool false] rfl (by (try simp only [List.map_toArray, List.map_cons, List.map_nil]); first | done | rfl | (simp only [List.length_drop, List.length_take]; rfl)) ?_; (with_reducible refine (mancipleref9_run.calls kj2 t339 false t343 t344 _ A11.out).mono ?_); rintro e w' ⟨rfl, ⟨nd, rfl⟩⟩; refine ⟨_, rfl, ?_⟩) | ((with_reducible refine gate_callee (f := 49) rfl ?_); refine goesL_ (some 42) rfl rfl Tryd.func49 (by kernel_rfl) rfl #[.string t341, .string t343] rfl (by (try simp only [List.map_toArray, List.map_cons, List.map_nil]); first | done | rfl | (simp only [List.length_drop, List.length_take]; rfl)) ?_; (with_reducible refine (mancipleref9_others.calls kj2 t341 t343 t345 _ A12.out).mono ?_); rintro e w' ⟨rfl, ⟨nd, rfl⟩⟩; refine ⟨_, rfl, ?_⟩))
                go_roundg kj2
                case measure => have := HK1.out; have := HJ2.out; omega
                case rel => exact ⟨(t342), (t344), (by first | rfl | (simp; done) | (simp [*]; done)), (by first | rfl | (simp; done) | (simp [*]; done)), H', ⟨by have := HK1.out; have := HJ2.out; omega⟩, by repeat (first | exact Drawn0.refl _ | apply Drawn0.step)⟩
              · rw [if_neg c13] at H
                have c13b0 : (t345 == 0) = false := beq_eq_false_iff_ne.mpr c13
                have c13b1 : (t345 != 0) = true := bne_iff_ne.mpr c13
                obtain rfl := Option.some.inj H
                go_wp2_with (first | ((with_reducible refine gate_callee (f := 43) rfl ?_); refine goesL_ (some 16) rfl rfl Tryd.func43 (by kernel_rfl) rfl #[.string x0_1, .bool true] rfl (by (try simp only [List.map_toArray, List.map_cons, List.map_nil]); first | done | rfl | (simp only [List.length_drop, List.length_take]; rfl)) ?_; (with_reducible refine (mancipleref9_run.calls kj2 x0_1 true t336 t337 _ A6.out).mono ?_); rintro e w' ⟨rfl, ⟨nd, rfl⟩⟩; refine ⟨_, rfl, ?_⟩) | ((with_reducible refine gate_callee (f := 43) rfl ?_); refine goesL_ (some 21) rfl rfl Tryd.func43 (by kernel_rfl) rfl #[.string x1_1, .bool true] rfl (by (try simp only [List.map_toArray, List.map_cons, List.map_nil]); first | done | rfl | (simp only [List.length_drop, List.length_take]; rfl)) ?_; (with_reducible refine (mancipleref9_run.calls kj2 x1_1 true t338 t339 _ A7.out).mono ?_); rintro e w' ⟨rfl, ⟨nd, rfl⟩⟩; refine ⟨_, rfl, ?_⟩) | ((with_reducible refine gate_callee (f := 48) rfl ?_); refine goesL_ (some 26) rfl rfl Tryd.func48 (by kernel_rfl) rfl #[.string t336, .string t338] rfl (by (try simp only [List.map_toArray, List.map_cons, List.map_nil]); first | done | rfl | (simp only [List.length_drop, List.length_take]; rfl)) ?_; (with_reducible refine (mancipleref9_digits.calls kj2 t336 t338 t340 _ A8.out).mono ?_); rintro e w' ⟨rfl, ⟨nd, rfl⟩⟩; refine ⟨_, rfl, ?_⟩) | ((with_reducible refine gate_callee (f := 43) rfl ?_); refine goesL_ (some 32) rfl rfl Tryd.func43 (by kernel_rfl) rfl #[.string t337, .bool false] rfl (by (try simp only [List.map_toArray, List.map_cons, List.map_nil]); first | done | rfl | (simp only [List.length_drop, List.length_take]; rfl)) ?_; (with_reducible refine (mancipleref9_run.calls kj2 t337 false t341 t342 _ A10.out).mono ?_); rintro e w' ⟨rfl, ⟨nd, rfl⟩⟩; refine ⟨_, rfl, ?_⟩) | ((with_reducible refine gate_callee (f := 43) rfl ?_); refine goesL_ (some 37) rfl rfl Tryd.func43 (by kernel_rfl) rfl #[.string t339, .bool false] rfl (by (try simp only [List.map_toArray, List.map_cons, List.map_nil]); first | done | rfl | (simp only [List.length_drop, List.length_take]; rfl)) ?_; (with_reducible refine (mancipleref9_run.calls kj2 t339 false t343 t344 _ A11.out).mono ?_); rintro e w' ⟨rfl, ⟨nd, rfl⟩⟩; refine ⟨_, rfl, ?_⟩) | ((with_reducible refine gate_callee (f := 49) rfl ?_); refine goesL_ (some 42) rfl rfl Tryd.func49 (by kernel_rfl) rfl #[.string t341, .string t343] rfl (by (try simp only [List.map_toArray, List.map_cons, List.map_nil]); first | done | rfl | (simp only [List.length_drop, List.length_take]; rfl)) ?_; (with_reducible refine (mancipleref9_others.calls kj2 t341 t343 t345 _ A12.out).mono ?_); rintro e w' ⟨rfl, ⟨nd, rfl⟩⟩; refine ⟨_, rfl, ?_⟩))
                go_ret
                exact ⟨by first | rfl | (simp; done) | (simp [*]; done), by repeat (first | exact Drawn0.refl _ | apply Drawn0.step)⟩
            · rw [if_neg c9] at H
              have c9b0 : (t340 == 0) = false := beq_eq_false_iff_ne.mpr c9
              have c9b1 : (t340 != 0) = true := bne_iff_ne.mpr c9
              obtain rfl := Option.some.inj H
              go_wp2_with (first | ((with_reducible refine gate_callee (f := 43) rfl ?_); refine goesL_ (some 16) rfl rfl Tryd.func43 (by kernel_rfl) rfl #[.string x0_1, .bool true] rfl (by (try simp only [List.map_toArray, List.map_cons, List.map_nil]); first | done | rfl | (simp only [List.length_drop, List.length_take]; rfl)) ?_; (with_reducible refine (mancipleref9_run.calls kj2 x0_1 true t336 t337 _ A6.out).mono ?_); rintro e w' ⟨rfl, ⟨nd, rfl⟩⟩; refine ⟨_, rfl, ?_⟩) | ((with_reducible refine gate_callee (f := 43) rfl ?_); refine goesL_ (some 21) rfl rfl Tryd.func43 (by kernel_rfl) rfl #[.string x1_1, .bool true] rfl (by (try simp only [List.map_toArray, List.map_cons, List.map_nil]); first | done | rfl | (simp only [List.length_drop, List.length_take]; rfl)) ?_; (with_reducible refine (mancipleref9_run.calls kj2 x1_1 true t338 t339 _ A7.out).mono ?_); rintro e w' ⟨rfl, ⟨nd, rfl⟩⟩; refine ⟨_, rfl, ?_⟩) | ((with_reducible refine gate_callee (f := 48) rfl ?_); refine goesL_ (some 26) rfl rfl Tryd.func48 (by kernel_rfl) rfl #[.string t336, .string t338] rfl (by (try simp only [List.map_toArray, List.map_cons, List.map_nil]); first | done | rfl | (simp only [List.length_drop, List.length_take]; rfl)) ?_; (with_reducible refine (mancipleref9_digits.calls kj2 t336 t338 t340 _ A8.out).mono ?_); rintro e w' ⟨rfl, ⟨nd, rfl⟩⟩; refine ⟨_, rfl, ?_⟩))
              go_ret
              exact ⟨by first | rfl | (simp; done) | (simp [*]; done), by repeat (first | exact Drawn0.refl _ | apply Drawn0.step)⟩
          · replace c5 := Bool.eq_false_iff.mpr c5
            subst c5
            have H1 : (some 0) = some r := by rw [if_neg (show ¬ (false = true) by decide)] at H; exact H
            clear H
            have H := H1
            clear H1
            obtain rfl := Option.some.inj H
            go_wp2
            go_ret
            exact ⟨by first | rfl | (simp; done) | (simp [*]; done), by repeat (first | exact Drawn0.refl _ | apply Drawn0.step)⟩
end Go.Proofs.YtpijehmhgjkkoaaDoor.Q
namespace Go.Proofs.YtpijehmhgjkkoaaDoor.Q
open Go.RowKit Go.Proofs.YtpijehmhgjkkoaaDoorW.PrintWords Go.Proofs.YtpijehmhgjkkoaaDoorW.PrintLast Go.Proofs.YtpijehmhgjkkoaaDoorW.PrintMore
attribute [local go_sem] max2_int min2_int max_two min_two max_three min_three max_four min_four   -- for this text's walks alone
set_option linter.unusedVariables false
set_option linter.unusedSimpArgs false
/-! ### mancipleref9_Compare: function 16 -/
def mancipleref9_Compare.f (k : Nat) (a0 : ByteArray) (a1 : ByteArray) : Option (Int) := (mancipleref9_parts.f k a0).bind fun bt346 => ((mancipleref9_parts.f k a1).bind fun bt350 => ((mancipleref9_Epoch.f k a0).bind fun t354 => ((mancipleref9_Epoch.f k a1).bind fun t355 => ((mancipleref9_sign.f t354 t355).bind fun t356 => (if t356 = 0 then ((mancipleref9_held.f k bt346.2.1 bt350.2.1).bind fun t357 => (if t357 = 0 then (if bt346.2.2.1.toList = ([] : List UInt8) then (if bt350.2.2.1.toList = ([] : List UInt8) then ((mancipleref9_held.f k (⟨#[48]⟩ : ByteArray) (⟨#[48]⟩ : ByteArray)).bind fun t358 => (some t358)) else ((mancipleref9_held.f k (⟨#[48]⟩ : ByteArray) bt350.2.2.1).bind fun t359 => (some t359))) else (if bt350.2.2.1.toList = ([] : List UInt8) then ((mancipleref9_held.f k bt346.2.2.1 (⟨#[48]⟩ : ByteArray)).bind fun t360 => (some t360)) else ((mancipleref9_held.f k bt346.2.2.1 bt350.2.2.1).bind fun t361 => (some t361)))) else (some t357))) else (some t356))))))
theorem mancipleref9_Compare.mono : ∀ a0 a1 k, LeO (mancipleref9_Compare.f k a0 a1) (mancipleref9_Compare.f (k + 1) a0 a1) := by
  intro a0 a1 k
  unfold mancipleref9_Compare.f
  repeat' first
      | (with_reducible exact mancipleref9_Epoch.mono _ _)
      | (with_reducible exact mancipleref9_held.mono _ _ _)
      | (with_reducible exact mancipleref9_parts.mono _ _)
      | (with_reducible exact LeO.refl _)
      | (with_reducible exact LeO.none _)
      | (with_reducible refine LeO.ite ?_ ?_)
      | (with_reducible refine LeO.bind ?_ (fun _ => ?_))
      | exact mancipleref9_Epoch.mono _ _
      | exact mancipleref9_held.mono _ _ _
      | exact mancipleref9_parts.mono _ _
      | exact LeO.none _
      | refine LeO.ite ?_ ?_
      | refine LeO.bind ?_ (fun _ => ?_)
set_option maxHeartbeats 8000000 in
set_option maxRecDepth 100000 in
theorem mancipleref9_Compare.calls (k : Nat) (a0 : ByteArray) (a1 : ByteArray) (r : Int) (w : World) (h : mancipleref9_Compare.f k a0 a1 = some r) :
    Calls Tryd.prog 16 #[.string a0, .string a1] w fun e w' => e = .returned (.int .i64 r) ∧ Drawn0 w w' := by
  have H : ((mancipleref9_parts.f k a0).bind fun bt346 => ((mancipleref9_parts.f k a1).bind fun bt350 => ((mancipleref9_Epoch.f k a0).bind fun t354 => ((mancipleref9_Epoch.f k a1).bind fun t355 => ((mancipleref9_sign.f t354 t355).bind fun t356 => (if t356 = 0 then ((mancipleref9_held.f k bt346.2.1 bt350.2.1).bind fun t357 => (if t357 = 0 then (if bt346.2.2.1.toList = ([] : List UInt8) then (if bt350.2.2.1.toList = ([] : List UInt8) then ((mancipleref9_held.f k (⟨#[48]⟩ : ByteArray) (⟨#[48]⟩ : ByteArray)).bind fun t358 => (some t358)) else ((mancipleref9_held.f k (⟨#[48]⟩ : ByteArray) bt350.2.2.1).bind fun t359 => (some t359))) else (if bt350.2.2.1.toList = ([] : List UInt8) then ((mancipleref9_held.f k bt346.2.2.1 (⟨#[48]⟩ : ByteArray)).bind fun t360 => (some t360)) else ((mancipleref9_held.f k bt346.2.2.1 bt350.2.2.1).bind fun t361 => (some t361)))) else (some t357))) else (some t356))))))) = some r := h
  clear h
  replace H := Option.bind_eq_some_iff.mp H
  obtain ⟨⟨t346, t347, t348, t349⟩, A30, H⟩ := H
  replace H : ((mancipleref9_parts.f k a1).bind fun bt350 => ((mancipleref9_Epoch.f k a0).bind fun t354 => ((mancipleref9_Epoch.f k a1).bind fun t355 => ((mancipleref9_sign.f t354 t355).bind fun t356 => (if t356 = 0 then ((mancipleref9_held.f k t347 bt350.2.1).bind fun t357 => (if t357 = 0 then (if t348.toList = ([] : List UInt8) then (if bt350.2.2.1.toList = ([] : List UInt8) then ((mancipleref9_held.f k (⟨#[48]⟩ : ByteArray) (⟨#[48]⟩ : ByteArray)).bind fun t358 => (some t358)) else ((mancipleref9_held.f k (⟨#[48]⟩ : ByteArray) bt350.2.2.1).bind fun t359 => (some t359))) else (if bt350.2.2.1.toList = ([] : List UInt8) then ((mancipleref9_held.f k t348 (⟨#[48]⟩ : ByteArray)).bind fun t360 => (some t360)) else ((mancipleref9_held.f k t348 bt350.2.2.1).bind fun t361 => (some t361)))) else (some t357))) else (some t356)))))) = some r := H
  have A3 := Aside0.mk A30
  clear A30
  replace H := Option.bind_eq_some_iff.mp H
  obtain ⟨⟨t350, t351, t352, t353⟩, A40, H⟩ := H
  replace H : ((mancipleref9_Epoch.f k a0).bind fun t354 => ((mancipleref9_Epoch.f k a1).bind fun t355 => ((mancipleref9_sign.f t354 t355).bind fun t356 => (if t356 = 0 then ((mancipleref9_held.f k t347 t351).bind fun t357 => (if t357 = 0 then (if t348.toList = ([] : List UInt8) then (if t352.toList = ([] : List UInt8) then ((mancipleref9_held.f k (⟨#[48]⟩ : ByteArray) (⟨#[48]⟩ : ByteArray)).bind fun t358 => (some t358)) else ((mancipleref9_held.f k (⟨#[48]⟩ : ByteArray) t352).bind fun t359 => (some t359))) else (if t352.toList = ([] : List UInt8) then ((mancipleref9_held.f k t348 (⟨#[48]⟩ : ByteArray)).bind fun t360 => (some t360)) else ((mancipleref9_held.f k t348 t352).bind fun t361 => (some t361)))) else (some t357))) else (some t356))))) = some r := H
  have A4 := Aside0.mk A40
  clear A40
  replace H := Option.bind_eq_some_iff.mp H
  obtain ⟨t354, A50, H⟩ := H
  replace H : ((mancipleref9_Epoch.f k a1).bind fun t355 => ((mancipleref9_sign.f t354 t355).bind fun t356 => (if t356 = 0 then ((mancipleref9_held.f k t347 t351).bind fun t357 => (if t357 = 0 then (if t348.toList = ([] : List UInt8) then (if t352.toList = ([] : List UInt8) then ((mancipleref9_held.f k (⟨#[48]⟩ : ByteArray) (⟨#[48]⟩ : ByteArray)).bind fun t358 => (some t358)) else ((mancipleref9_held.f k (⟨#[48]⟩ : ByteArray) t352).bind fun t359 => (some t359))) else (if t352.toList = ([] : List UInt8) then ((mancipleref9_held.f k t348 (⟨#[48]⟩ : ByteArray)).bind fun t360 => (some t360)) else ((mancipleref9_held.f k t348 t352).bind fun t361 => (some t361)))) else (some t357))) else (some t356)))) = some r := H
  have A5 := Aside0.mk A50
  clear A50
  replace H := Option.bind_eq_some_iff.mp H
  obtain ⟨t355, A60, H⟩ := H
  replace H : ((mancipleref9_sign.f t354 t355).bind fun t356 => (if t356 = 0 then ((mancipleref9_held.f k t347 t351).bind fun t357 => (if t357 = 0 then (if t348.toList = ([] : List UInt8) then (if t352.toList = ([] : List UInt8) then ((mancipleref9_held.f k (⟨#[48]⟩ : ByteArray) (⟨#[48]⟩ : ByteArray)).bind fun t358 => (some t358)) else ((mancipleref9_held.f k (⟨#[48]⟩ : ByteArray) t352).bind fun t359 => (some t359))) else (if t352.toList = ([] : List UInt8) then ((mancipleref9_held.f k t348 (⟨#[48]⟩ : ByteArray)).bind fun t360 => (some t360)) else ((mancipleref9_held.f k t348 t352).bind fun t361 => (some t361)))) else (some t357))) else (some t356))) = some r := H
  have A6 := Aside0.mk A60
  clear A60
  replace H := Option.bind_eq_some_iff.mp H
  obtain ⟨t356, A70, H⟩ := H
  replace H : (if t356 = 0 then ((mancipleref9_held.f k t347 t351).bind fun t357 => (if t357 = 0 then (if t348.toList = ([] : List UInt8) then (if t352.toList = ([] : List UInt8) then ((mancipleref9_held.f k (⟨#[48]⟩ : ByteArray) (⟨#[48]⟩ : ByteArray)).bind fun t358 => (some t358)) else ((mancipleref9_held.f k (⟨#[48]⟩ : ByteArray) t352).bind fun t359 => (some t359))) else (if t352.toList = ([] : List UInt8) then ((mancipleref9_held.f k t348 (⟨#[48]⟩ : ByteArray)).bind fun t360 => (some t360)) else ((mancipleref9_held.f k t348 t352).bind fun t361 => (some t361)))) else (some t357))) else (some t356)) = some r := H
  have A7 := Aside0.mk A70
  clear A70
  by_cases c8 : t356 = 0
  · rw [if_pos c8] at H
    have c8b0 : (t356 == 0) = true := beq_iff_eq.mpr c8
    have c8b1 : (t356 != 0) = false := bne_eq_false_iff_eq.mpr c8
    clear c8
    replace H := Option.bind_eq_some_iff.mp H
    obtain ⟨t357, A90, H⟩ := H
    replace H : (if t357 = 0 then (if t348.toList = ([] : List UInt8) then (if t352.toList = ([] : List UInt8) then ((mancipleref9_held.f k (⟨#[48]⟩ : ByteArray) (⟨#[48]⟩ : ByteArray)).bind fun t358 => (some t358)) else ((mancipleref9_held.f k (⟨#[48]⟩ : ByteArray) t352).bind fun t359 => (some t359))) else (if t352.toList = ([] : List UInt8) then ((mancipleref9_held.f k t348 (⟨#[48]⟩ : ByteArray)).bind fun t360 => (some t360)) else ((mancipleref9_held.f k t348 t352).bind fun t361 => (some t361)))) else (some t357)) = some r := H
    have A9 := Aside0.mk A90
    clear A90
    by_cases c10 : t357 = 0
    · rw [if_pos c10] at H
      have c10b0 : (t357 == 0) = true := beq_iff_eq.mpr c10
      have c10b1 : (t357 != 0) = false := bne_eq_false_iff_eq.mpr c10
      clear c10
      by_cases c11 : t348.toList = ([] : List UInt8)
      · rw [if_pos c11] at H
        have c11b0 : (t348.toList == ([] : List UInt8)) = true := beq_iff_eq.mpr c11
        have c11b1 : (t348.toList != ([] : List UInt8)) = false := bne_eq_false_iff_eq.mpr c11
        have c11b2 : t348.toList.isEmpty = true := List.isEmpty_iff.mpr c11
        clear c11
        by_cases c12 : t352.toList = ([] : List UInt8)
        · rw [if_pos c12] at H
          have c12b0 : (t352.toList == ([] : List UInt8)) = true := beq_iff_eq.mpr c12
          have c12b1 : (t352.toList != ([] : List UInt8)) = false := bne_eq_false_iff_eq.mpr c12
          have c12b2 : t352.toList.isEmpty = true := List.isEmpty_iff.mpr c12
          clear c12
          replace H := Option.bind_eq_some_iff.mp H
          obtain ⟨t358, A130, H⟩ := H
          replace H : (some t358) = some r := H
          have A13 := Aside0.mk A130
          clear A130
          obtain rfl := Option.some.inj H
          go_enter Tryd.func16, Tryd.ntmps16
          go_wp2_with (first | ((with_reducible refine gate_callee (f := 22) rfl ?_); refine goesL_ (some 16) rfl rfl Tryd.func22 (by kernel_rfl) rfl #[.string a0] rfl (by (try simp only [List.map_toArray, List.map_cons, List.map_nil]); first | done | rfl | (simp only [List.length_drop, List.length_take]; rfl)) ?_; (with_reducible refine (mancipleref9_parts.calls k a0 t346 t347 t348 t349 _ A3.out).mono ?_); rintro e w' ⟨rfl, ⟨nd, rfl⟩⟩; refine ⟨_, rfl, ?_⟩) | ((with_reducible refine gate_callee (f := 22) rfl ?_); refine goesL_ (some 23) rfl rfl Tryd.func22 (by kernel_rfl) rfl #[.string a1] rfl (by (try simp only [List.map_toArray, List.map_cons, List.map_nil]); first | done | rfl | (simp only [List.length_drop, List.length_take]; rfl)) ?_; (with_reducible refine (mancipleref9_parts.calls k a1 t350 t351 t352 t353 _ A4.out).mono ?_); rintro e w' ⟨rfl, ⟨nd, rfl⟩⟩; refine ⟨_, rfl, ?_⟩) | ((with_reducible refine gate_callee (f := 14) rfl ?_); refine goesL_ (some 29) rfl rfl Tryd.func14 (by kernel_rfl) rfl #[.string a0] rfl (by (try simp only [List.map_toArray, List.map_cons, List.map_nil]); first | done | rfl | (simp only [List.length_drop, List.length_take]; rfl)) ?_; (with_reducible refine (mancipleref9_Epoch.calls k a0 t354 _ A5.out).mono ?_); rintro e w' ⟨rfl, ⟨nd, rfl⟩⟩; refine ⟨_, rfl, ?_⟩) | ((with_reducible refine gate_callee (f := 14) rfl ?_); refine goesL_ (some 31) rfl rfl Tryd.func14 (by kernel_rfl) rfl #[.string a1] rfl (by (try simp only [List.map_toArray, List.map_cons, List.map_nil]); first | done | rfl | (simp only [List.length_drop, List.length_take]; rfl)) ?_; (with_reducible refine (mancipleref9_Epoch.calls k a1 t355 _ A6.out).mono ?_); rintro e w' ⟨rfl, ⟨nd, rfl⟩⟩; refine ⟨_, rfl, ?_⟩) | ((with_reducible refine gate_callee (f := 31) rfl ?_); refine goesL_ (some 32) rfl rfl Tryd.func31 (by kernel_rfl) rfl #[.int .i64 t354, .int .i64 t355] rfl (by (try simp only [List.map_toArray, List.map_cons, List.map_nil]); first | done | rfl | (simp only [List.length_drop, List.length_take]; rfl)) ?_; (with_reducible refine (mancipleref9_sign.calls t354 t355 t356 _ A7.out).mono ?_); rintro e w' ⟨rfl, ⟨nd, rfl⟩⟩; refine ⟨_, rfl, ?_⟩) | ((with_reducible refine gate_callee (f := 32) rfl ?_); refine goesL_ (some 38) rfl rfl Tryd.func32 (by kernel_rfl) rfl #[.string t347, .string t351] rfl (by (try simp only [List.map_toArray, List.map_cons, List.map_nil]); first | done | rfl | (simp only [List.length_drop, List.length_take]; rfl)) ?_; (with_reducible refine (mancipleref9_held.calls k t347 t351 t357 _ A9.out).mono ?_); rintro e w' ⟨rfl, ⟨nd, rfl⟩⟩; refine ⟨_, rfl, ?_⟩) | ((with_reducible refine gate_callee (f := 32) rfl ?_); refine goesL_ (some 48) rfl rfl Tryd.func32 (by kernel_rfl) rfl #[.string (⟨#[48]⟩ : ByteArray), .string (⟨#[48]⟩ : ByteArray)] rfl (by (try simp only [List.map_toArray, List.map_cons, List.map_nil]); first | done | rfl | (simp only [List.length_drop, List.length_take]; rfl)) ?_; (with_reducible refine (mancipleref9_held.calls k (⟨#[48]⟩ : ByteArray) (⟨#[48]⟩ : ByteArray) t358 _ A13.out).mono ?_); rintro e w' ⟨rfl, ⟨nd, rfl⟩⟩; refine ⟨_, rfl, ?_⟩))
          go_ret
          exact ⟨by first | rfl | (simp; done) | (simp [*]; done), by repeat (first | exact Drawn0.refl _ | apply Drawn0.step)⟩
        · rw [if_neg c12] at H
          have c12b0 : (t352.toList == ([] : List UInt8)) = false := beq_eq_false_iff_ne.mpr c12
          have c12b1 : (t352.toList != ([] : List UInt8)) = true := bne_iff_ne.mpr c12
          have c12b2 : t352.toList.isEmpty = false := Bool.eq_false_iff.mpr (fun h_ => c12 (List.isEmpty_iff.mp h_))
          replace H := Option.bind_eq_some_iff.mp H
          obtain ⟨t359, A140, H⟩ := H
          replace H : (some t359) = some r := H
          have A14 := Aside0.mk A140
          clear A140
          obtain rfl := Option.some.inj H
          go_enter Tryd.func16, Tryd.ntmps16
          go_wp2_with (first | ((with_reducible refine gate_callee (f := 22) rfl ?_); refine goesL_ (some 16) rfl rfl Tryd.func22 (by kernel_rfl) rfl #[.string a0] rfl (by (try simp only [List.map_toArray, List.map_cons, List.map_nil]); first | done | rfl | (simp only [List.length_drop, List.length_take]; rfl)) ?_; (with_reducible refine (mancipleref9_parts.calls k a0 t346 t347 t348 t349 _ A3.out).mono ?_); rintro e w' ⟨rfl, ⟨nd, rfl⟩⟩; refine ⟨_, rfl, ?_⟩) | ((with_reducible refine gate_callee (f := 22) rfl ?_); refine goesL_ (some 23) rfl rfl Tryd.func22 (by kernel_rfl) rfl #[.string a1] rfl (by (try simp only [List.map_toArray, List.map_cons, List.map_nil]); first | done | rfl | (simp only [List.length_drop, List.length_take]; rfl)) ?_; (with_reducible refine (mancipleref9_parts.calls k a1 t350 t351 t352 t353 _ A4.out).mono ?_); rintro e w' ⟨rfl, ⟨nd, rfl⟩⟩; refine ⟨_, rfl, ?_⟩) | ((with_reducible refine gate_callee (f := 14) rfl ?_); refine goesL_ (some 29) rfl rfl Tryd.func14 (by kernel_rfl) rfl #[.string a0] rfl (by (try simp only [List.map_toArray, List.map_cons, List.map_nil]); first | done | rfl | (simp only [List.length_drop, List.length_take]; rfl)) ?_; (with_reducible refine (mancipleref9_Epoch.calls k a0 t354 _ A5.out).mono ?_); rintro e w' ⟨rfl, ⟨nd, rfl⟩⟩; refine ⟨_, rfl, ?_⟩) | ((with_reducible refine gate_callee (f := 14) rfl ?_); refine goesL_ (some 31) rfl rfl Tryd.func14 (by kernel_rfl) rfl #[.string a1] rfl (by (try simp only [List.map_toArray, List.map_cons, List.map_nil]); first | done | rfl | (simp only [List.length_drop, List.length_take]; rfl)) ?_; (with_reducible refine (mancipleref9_Epoch.calls k a1 t355 _ A6.out).mono ?_); rintro e w' ⟨rfl, ⟨nd, rfl⟩⟩; refine ⟨_, rfl, ?_⟩) | ((with_reducible refine gate_callee (f := 31) rfl ?_); refine goesL_ (some 32) rfl rfl Tryd.func31 (by kernel_rfl) rfl #[.int .i64 t354, .int .i64 t355] rfl (by (try simp only [List.map_toArray, List.map_cons, List.map_nil]); first | done | rfl | (simp only [List.length_drop, List.length_take]; rfl)) ?_; (with_reducible refine (mancipleref9_sign.calls t354 t355 t356 _ A7.out).mono ?_); rintro e w' ⟨rfl, ⟨nd, rfl⟩⟩; refine ⟨_, rfl, ?_⟩) | ((with_reducible refine gate_callee (f := 32) rfl ?_); refine goesL_ (some 38) rfl rfl Tryd.func32 (by kernel_rfl) rfl #[.string t347, .string t351] rfl (by (try simp only [List.map_toArray, List.map_cons, List.map_nil]); first | done | rfl | (simp only [List.length_drop, List.length_take]; rfl)) ?_; (with_reducible refine (mancipleref9_held.calls k t347 t351 t357 _ A9.out).mono ?_); rintro e w' ⟨rfl, ⟨nd, rfl⟩⟩; refine ⟨_, rfl, ?_⟩) | ((with_reducible refine gate_callee (f := 32) rfl ?_); refine goesL_ (some 48) rfl rfl Tryd.func32 (by kernel_rfl) rfl #[.string (⟨#[48]⟩ : ByteArray), .string t352] rfl (by (try simp only [List.map_toArray, List.map_cons, List.map_nil]); first | done | rfl | (simp only [List.length_drop, List.length_take]; rfl)) ?_; (with_reducible refine (mancipleref9_held.calls k (⟨#[48]⟩ : ByteArray) t352 t359 _ A14.out).mono ?_); rintro e w' ⟨rfl, ⟨nd, rfl⟩⟩; refine ⟨_, rfl, ?_⟩))
          go_ret
          exact ⟨by first | rfl | (simp; done) | (simp [*]; done), by repeat (first | exact Drawn0.refl _ | apply Drawn0.step)⟩
      · rw [if_neg c11] at H
        have c11b0 : (t348.toList == ([] : List UInt8)) = false := beq_eq_false_iff_ne.mpr c11
        have c11b1 : (t348.toList != ([] : List UInt8)) = true := bne_iff_ne.mpr c11
        have c11b2 : t348.toList.isEmpty = false := Bool.eq_false_iff.mpr (fun h_ => c11 (List.isEmpty_iff.mp h_))
        by_cases c15 : t352.toList = ([] : List UInt8)
        · rw [if_pos c15] at H
          have c15b0 : (t352.toList == ([] : List UInt8)) = true := beq_iff_eq.mpr c15
          have c15b1 : (t352.toList != ([] : List UInt8)) = false := bne_eq_false_iff_eq.mpr c15
          have c15b2 : t352.toList.isEmpty = true := List.isEmpty_iff.mpr c15
          clear c15
          replace H := Option.bind_eq_some_iff.mp H
          obtain ⟨t360, A160, H⟩ := H
          replace H : (some t360) = some r := H
          have A16 := Aside0.mk A160
          clear A160
          obtain rfl := Option.some.inj H
          go_enter Tryd.func16, Tryd.ntmps16
          go_wp2_with (first | ((with_reducible refine gate_callee (f := 22) rfl ?_); refine goesL_ (some 16) rfl rfl Tryd.func22 (by kernel_rfl) rfl #[.string a0] rfl (by (try simp only [List.map_toArray, List.map_cons, List.map_nil]); first | done | rfl | (simp only [List.length_drop, List.length_take]; rfl)) ?_; (with_reducible refine (mancipleref9_parts.calls k a0 t346 t347 t348 t349 _ A3.out).mono ?_); rintro e w' ⟨rfl, ⟨nd, rfl⟩⟩; refine ⟨_, rfl, ?_⟩) | ((with_reducible refine gate_callee (f := 22) rfl ?_); refine goesL_ (some 23) rfl rfl Tryd.func22 (by kernel_rfl) rfl #[.string a1] rfl (by (try simp only [List.map_toArray, List.map_cons, List.map_nil]); first | done | rfl | (simp only [List.length_drop, List.length_take]; rfl)) ?_; (with_reducible refine (mancipleref9_parts.calls k a1 t350 t351 t352 t353 _ A4.out).mono ?_); rintro e w' ⟨rfl, ⟨nd, rfl⟩⟩; refine ⟨_, rfl, ?_⟩) | ((with_reducible refine gate_callee (f := 14) rfl ?_); refine goesL_ (some 29) rfl rfl Tryd.func14 (by kernel_rfl) rfl #[.string a0] rfl (by (try simp only [List.map_toArray, List.map_cons, List.map_nil]); first | done | rfl | (simp only [List.length_drop, List.length_take]; rfl)) ?_; (with_reducible refine (mancipleref9_Epoch.calls k a0 t354 _ A5.out).mono ?_); rintro e w' ⟨rfl, ⟨nd, rfl⟩⟩; refine ⟨_, rfl, ?_⟩) | ((with_reducible refine gate_callee (f := 14) rfl ?_); refine goesL_ (some 31) rfl rfl Tryd.func14 (by kernel_rfl) rfl #[.string a1] rfl (by (try simp only [List.map_toArray, List.map_cons, List.map_nil]); first | done | rfl | (simp only [List.length_drop, List.length_take]; rfl)) ?_; (with_reducible refine (mancipleref9_Epoch.calls k a1 t355 _ A6.out).mono ?_); rintro e w' ⟨rfl, ⟨nd, rfl⟩⟩; refine ⟨_, rfl, ?_⟩) | ((with_reducible refine gate_callee (f := 31) rfl ?_); refine goesL_ (some 32) rfl rfl Tryd.func31 (by kernel_rfl) rfl #[.int .i64 t354, .int .i64 t355] rfl (by (try simp only [List.map_toArray, List.map_cons, List.map_nil]); first | done | rfl | (simp only [List.length_drop, List.length_take]; rfl)) ?_; (with_reducible refine (mancipleref9_sign.calls t354 t355 t356 _ A7.out).mono ?_); rintro e w' ⟨rfl, ⟨nd, rfl⟩⟩; refine ⟨_, rfl, ?_⟩) | ((with_reducible refine gate_callee (f := 32) rfl ?_); refine goesL_ (some 38) rfl rfl Tryd.func32 (by kernel_rfl) rfl #[.string t347, .string t351] rfl (by (try simp only [List.map_toArray, List.map_cons, List.map_nil]); first | done | rfl | (simp only [List.length_drop, List.length_take]; rfl)) ?_; (with_reducible refine (mancipleref9_held.calls k t347 t351 t357 _ A9.out).mono ?_); rintro e w' ⟨rfl, ⟨nd, rfl⟩⟩; refine ⟨_, rfl, ?_⟩) | ((with_reducible refine gate_callee (f := 32) rfl ?_); refine goesL_ (some 48) rfl rfl Tryd.func32 (by kernel_rfl) rfl #[.string t348, .string (⟨#[48]⟩ : ByteArray)] rfl (by (try simp only [List.map_toArray, List.map_cons, List.map_nil]); first | done | rfl | (simp only [List.length_drop, List.length_take]; rfl)) ?_; (with_reducible refine (mancipleref9_held.calls k t348 (⟨#[48]⟩ : ByteArray) t360 _ A16.out).mono ?_); rintro e w' ⟨rfl, ⟨nd, rfl⟩⟩; refine ⟨_, rfl, ?_⟩))
          go_ret
          exact ⟨by first | rfl | (simp; done) | (simp [*]; done), by repeat (first | exact Drawn0.refl _ | apply Drawn0.step)⟩
        · rw [if_neg c15] at H
          have c15b0 : (t352.toList == ([] : List UInt8)) = false := beq_eq_false_iff_ne.mpr c15
          have c15b1 : (t352.toList != ([] : List UInt8)) = true := bne_iff_ne.mpr c15
          have c15b2 : t352.toList.isEmpty = false := Bool.eq_false_iff.mpr (fun h_ => c15 (List.isEmpty_iff.mp h_))
          replace H := Option.bind_eq_some_iff.mp H
          obtain ⟨t361, A170, H⟩ := H
          replace H : (some t361) = some r := H
          have A17 := Aside0.mk A170
          clear A170
          obtain rfl := Option.some.inj H
          go_enter Tryd.func16, Tryd.ntmps16
          go_wp2_with (first | ((with_reducible refine gate_callee (f := 22) rfl ?_); refine goesL_ (some 16) rfl rfl Tryd.func22 (by kernel_rfl) rfl #[.string a0] rfl (by (try simp only [List.map_toArray, List.map_cons, List.map_nil]); first | done | rfl | (simp only [List.length_drop, List.length_take]; rfl)) ?_; (with_reducible refine (mancipleref9_parts.calls k a0 t346 t347 t348 t349 _ A3.out).mono ?_); rintro e w' ⟨rfl, ⟨nd, rfl⟩⟩; refine ⟨_, rfl, ?_⟩) | ((with_reducible refine gate_callee (f := 22) rfl ?_); refine goesL_ (some 23) rfl rfl Tryd.func22 (by kernel_rfl) rfl #[.string a1] rfl (by (try simp only [List.map_toArray, List.map_cons, List.map_nil]); first | done | rfl | (simp only [List.length_drop, List.length_take]; rfl)) ?_; (with_reducible refine (mancipleref9_parts.calls k a1 t350 t351 t352 t353 _ A4.out).mono ?_); rintro e w' ⟨rfl, ⟨nd, rfl⟩⟩; refine ⟨_, rfl, ?_⟩) | ((with_reducible refine gate_callee (f := 14) rfl ?_); refine goesL_ (some 29) rfl rfl Tryd.func14 (by kernel_rfl) rfl #[.string a0] rfl (by (try simp only [List.map_toArray, List.map_cons, List.map_nil]); first | done | rfl | (simp only [List.length_drop, List.length_take]; rfl)) ?_; (with_reducible refine (mancipleref9_Epoch.calls k a0 t354 _ A5.out).mono ?_); rintro e w' ⟨rfl, ⟨nd, rfl⟩⟩; refine ⟨_, rfl, ?_⟩) | ((with_reducible refine gate_callee (f := 14) rfl ?_); refine goesL_ (some 31) rfl rfl Tryd.func14 (by kernel_rfl) rfl #[.string a1] rfl (by (try simp only [List.map_toArray, List.map_cons, List.map_nil]); first | done | rfl | (simp only [List.length_drop, List.length_take]; rfl)) ?_; (with_reducible refine (mancipleref9_Epoch.calls k a1 t355 _ A6.out).mono ?_); rintro e w' ⟨rfl, ⟨nd, rfl⟩⟩; refine ⟨_, rfl, ?_⟩) | ((with_reducible refine gate_callee (f := 31) rfl ?_); refine goesL_ (some 32) rfl rfl Tryd.func31 (by kernel_rfl) rfl #[.int .i64 t354, .int .i64 t355] rfl (by (try simp only [List.map_toArray, List.map_cons, List.map_nil]); first | done | rfl | (simp only [List.length_drop, List.length_take]; rfl)) ?_; (with_reducible refine (mancipleref9_sign.calls t354 t355 t356 _ A7.out).mono ?_); rintro e w' ⟨rfl, ⟨nd, rfl⟩⟩; refine ⟨_, rfl, ?_⟩) | ((with_reducible refine gate_callee (f := 32) rfl ?_); refine goesL_ (some 38) rfl rfl Tryd.func32 (by kernel_rfl) rfl #[.string t347, .string t351] rfl (by (try simp only [List.map_toArray, List.map_cons, List.map_nil]); first | done | rfl | (simp only [List.length_drop, List.length_take]; rfl)) ?_; (with_reducible refine (mancipleref9_held.calls k t347 t351 t357 _ A9.out).mono ?_); rintro e w' ⟨rfl, ⟨nd, rfl⟩⟩; refine ⟨_, rfl, ?_⟩) | ((with_reducible refine gate_callee (f := 32) rfl ?_); refine goesL_ (some 48) rfl rfl Tryd.func32 (by kernel_rfl) rfl #[.string t348, .string t352] rfl (by (try simp only [List.map_toArray, List.map_cons, List.map_nil]); first | done | rfl | (simp only [List.length_drop, List.length_take]; rfl)) ?_; (with_reducible refine (mancipleref9_held.calls k t348 t352 t361 _ A17.out).mono ?_); rintro e w' ⟨rfl, ⟨nd, rfl⟩⟩; refine ⟨_, rfl, ?_⟩))
          go_ret
          exact ⟨by first | rfl | (simp; done) | (simp [*]; done), by repeat (first | exact Drawn0.refl _ | apply Drawn0.step)⟩
    · rw [if_neg c10] at H
      have c10b0 : (t357 == 0) = false := beq_eq_false_iff_ne.mpr c10
      have c10b1 : (t357 != 0) = true := bne_iff_ne.mpr c10
      obtain rfl := Option.some.inj H
      go_enter Tryd.func16, Tryd.ntmps16
      go_wp2_with (first | ((with_reducible refine gate_callee (f := 22) rfl ?_); refine goesL_ (some 16) rfl rfl Tryd.func22 (by kernel_rfl) rfl #[.string a0] rfl (by (try simp only [List.map_toArray, List.map_cons, List.map_nil]); first | done | rfl | (simp only [List.length_drop, List.length_take]; rfl)) ?_; (with_reducible refine (mancipleref9_parts.calls k a0 t346 t347 t348 t349 _ A3.out).mono ?_); rintro e w' ⟨rfl, ⟨nd, rfl⟩⟩; refine ⟨_, rfl, ?_⟩) | ((with_reducible refine gate_callee (f := 22) rfl ?_); refine goesL_ (some 23) rfl rfl Tryd.func22 (by kernel_rfl) rfl #[.string a1] rfl (by (try simp only [List.map_toArray, List.map_cons, List.map_nil]); first | done | rfl | (simp only [List.length_drop, List.length_take]; rfl)) ?_; (with_reducible refine (mancipleref9_parts.calls k a1 t350 t351 t352 t353 _ A4.out).mono ?_); rintro e w' ⟨rfl, ⟨nd, rfl⟩⟩; refine ⟨_, rfl, ?_⟩) | ((with_reducible refine gate_callee (f := 14) rfl ?_); refine goesL_ (some 29) rfl rfl Tryd.func14 (by kernel_rfl) rfl #[.string a0] rfl (by (try simp only [List.map_toArray, List.map_cons, List.map_nil]); first | done | rfl | (simp only [List.length_drop, List.length_take]; rfl)) ?_; (with_reducible refine (mancipleref9_Epoch.calls k a0 t354 _ A5.out).mono ?_); rintro e w' ⟨rfl, ⟨nd, rfl⟩⟩; refine ⟨_, rfl, ?_⟩) | ((with_reducible refine gate_callee (f := 14) rfl ?_); refine goesL_ (some 31) rfl rfl Tryd.func14 (by kernel_rfl) rfl #[.string a1] rfl (by (try simp only [List.map_toArray, List.map_cons, List.map_nil]); first | done | rfl | (simp only [List.length_drop, List.length_take]; rfl)) ?_; (with_reducible refine (mancipleref9_Epoch.calls k a1 t355 _ A6.out).mono ?_); rintro e w' ⟨rfl, ⟨nd, rfl⟩⟩; refine ⟨_, rfl, ?_⟩) | ((with_reducible refine gate_callee (f := 31) rfl ?_); refine goesL_ (some 32) rfl rfl Tryd.func31 (by kernel_rfl) rfl #[.int .i64 t354, .int .i64 t355] rfl (by (try simp only [List.map_toArray, List.map_cons, List.map_nil]); first | done | rfl | (simp only [List.length_drop, List.length_take]; rfl)) ?_; (with_reducible refine (mancipleref9_sign.calls t354 t355 t356 _ A7.out).mono ?_); rintro e w' ⟨rfl, ⟨nd, rfl⟩⟩; refine ⟨_, rfl, ?_⟩) | ((with_reducible refine gate_callee (f := 32) rfl ?_); refine goesL_ (some 38) rfl rfl Tryd.func32 (by kernel_rfl) rfl #[.string t347, .string t351] rfl (by (try simp only [List.map_toArray, List.map_cons, List.map_nil]); first | done | rfl | (simp only [List.length_drop, List.length_take]; rfl)) ?_; (with_reducible refine (mancipleref9_held.calls k t347 t351 t357 _ A9.out).mono ?_); rintro e w' ⟨rfl, ⟨nd, rfl⟩⟩; refine ⟨_, rfl, ?_⟩))
      go_ret
      exact ⟨by first | rfl | (simp; done) | (simp [*]; done), by repeat (first | exact Drawn0.refl _ | apply Drawn0.step)⟩
  · rw [if_neg c8] at H
    have c8b0 : (t356 == 0) = false := beq_eq_false_iff_ne.mpr c8
    have c8b1 : (t356 != 0) = true := bne_iff_ne.mpr c8
    obtain rfl := Option.some.inj H
    go_enter Tryd.func16, Tryd.ntmps16
    go_wp2_with (first | ((with_reducible refine gate_callee (f := 22) rfl ?_); refine goesL_ (some 16) rfl rfl Tryd.func22 (by kernel_rfl) rfl #[.string a0] rfl (by (try simp only [List.map_toArray, List.map_cons, List.map_nil]); first | done | rfl | (simp only [List.length_drop, List.length_take]; rfl)) ?_; (with_reducible refine (mancipleref9_parts.calls k a0 t346 t347 t348 t349 _ A3.out).mono ?_); rintro e w' ⟨rfl, ⟨nd, rfl⟩⟩; refine ⟨_, rfl, ?_⟩) | ((with_reducible refine gate_callee (f := 22) rfl ?_); refine goesL_ (some 23) rfl rfl Tryd.func22 (by kernel_rfl) rfl #[.string a1] rfl (by (try simp only [List.map_toArray, List.map_cons, List.map_nil]); first | done | rfl | (simp only [List.length_drop, List.length_take]; rfl)) ?_; (with_reducible refine (mancipleref9_parts.calls k a1 t350 t351 t352 t353 _ A4.out).mono ?_); rintro e w' ⟨rfl, ⟨nd, rfl⟩⟩; refine ⟨_, rfl, ?_⟩) | ((with_reducible refine gate_callee (f := 14) rfl ?_); refine goesL_ (some 29) rfl rfl Tryd.func14 (by kernel_rfl) rfl #[.string a0] rfl (by (try simp only [List.map_toArray, List.map_cons, List.map_nil]); first | done | rfl | (simp only [List.length_drop, List.length_take]; rfl)) ?_; (with_reducible refine (mancipleref9_Epoch.calls k a0 t354 _ A5.out).mono ?_); rintro e w' ⟨rfl, ⟨nd, rfl⟩⟩; refine ⟨_, rfl, ?_⟩) | ((with_reducible refine gate_callee (f := 14) rfl ?_); refine goesL_ (some 31) rfl rfl Tryd.func14 (by kernel_rfl) rfl #[.string a1] rfl (by (try simp only [List.map_toArray, List.map_cons, List.map_nil]); first | done | rfl | (simp only [List.length_drop, List.length_take]; rfl)) ?_; (with_reducible refine (mancipleref9_Epoch.calls k a1 t355 _ A6.out).mono ?_); rintro e w' ⟨rfl, ⟨nd, rfl⟩⟩; refine ⟨_, rfl, ?_⟩) | ((with_reducible refine gate_callee (f := 31) rfl ?_); refine goesL_ (some 32) rfl rfl Tryd.func31 (by kernel_rfl) rfl #[.int .i64 t354, .int .i64 t355] rfl (by (try simp only [List.map_toArray, List.map_cons, List.map_nil]); first | done | rfl | (simp only [List.length_drop, List.length_take]; rfl)) ?_; (with_reducible refine (mancipleref9_sign.calls t354 t355 t356 _ A7.out).mono ?_); rintro e w' ⟨rfl, ⟨nd, rfl⟩⟩; refine ⟨_, rfl, ?_⟩))
    go_ret
    exact ⟨by first | rfl | (simp; done) | (simp [*]; done), by repeat (first | exact Drawn0.refl _ | apply Drawn0.step)⟩
end Go.Proofs.YtpijehmhgjkkoaaDoor.Q
namespace Go.Proofs.YtpijehmhgjkkoaaDoor.Q
open Go.RowKit Go.Proofs.YtpijehmhgjkkoaaDoorW.PrintWords Go.Proofs.YtpijehmhgjkkoaaDoorW.PrintLast Go.Proofs.YtpijehmhgjkkoaaDoorW.PrintMore
attribute [local go_sem] max2_int min2_int max_two min_two max_three min_three max_four min_four   -- for this text's walks alone
set_option linter.unusedVariables false
set_option linter.unusedSimpArgs false
/-! ### mancipleref9_Decimal: function 17 -/
def mancipleref9_Decimal.l0 : Nat → Int → ByteArray → Option (ByteArray)
  | 0, _, _ => none
  | k + 1, x0, x3 => if x0 ≥ 10 then ((some (([(IntKind.u64.wrap (48 + (Int.tmod (IntKind.u64.wrap (Int.tdiv x0 10)) 10))) % 256] : List Int) : List Int)).bind fun y380 => (if (strOfNums y380).size + x3.size ≤ 9223372036854775807 then (mancipleref9_Decimal.l0 k (IntKind.u64.wrap (Int.tdiv x0 10)) ((strOfNums y380) ++ x3)) else (none))) else (some x3)
def mancipleref9_Decimal.f (k : Nat) (a0 : Int) : Option (ByteArray) := mancipleref9_Decimal.l0 k a0 (strOfNums (([(IntKind.u64.wrap (48 + (Int.tmod a0 10))) % 256] : List Int)))
theorem mancipleref9_Decimal.mono_l : ∀ k, (∀ y0 y1, LeO (mancipleref9_Decimal.l0 k y0 y1) (mancipleref9_Decimal.l0 (k + 1) y0 y1))
  | 0 => fun _ _ r h => by simp [mancipleref9_Decimal.l0] at h
  | k + 1 => by
    have ih0 := mancipleref9_Decimal.mono_l k
    · intro y0 y1
      unfold mancipleref9_Decimal.l0
      repeat' first
      | (with_reducible exact ih0 _ _)
      | (with_reducible exact LeO.refl _)
      | (with_reducible exact LeO.none _)
      | (with_reducible refine LeO.ite ?_ ?_)
      | (with_reducible refine LeO.bind ?_ (fun _ => ?_))
      | exact ih0 _ _
      | exact LeO.none _
      | refine LeO.ite ?_ ?_
      | refine LeO.bind ?_ (fun _ => ?_)
theorem mancipleref9_Decimal.mono : ∀ a0 k, LeO (mancipleref9_Decimal.f k a0) (mancipleref9_Decimal.f (k + 1) a0) := by
  intro a0 k
  have ih0 := mancipleref9_Decimal.mono_l k
  unfold mancipleref9_Decimal.f
  repeat' first
      | (with_reducible exact ih0 _ _)
      | (with_reducible exact LeO.refl _)
      | (with_reducible exact LeO.none _)
      | (with_reducible refine LeO.ite ?_ ?_)
      | (with_reducible refine LeO.bind ?_ (fun _ => ?_))
      | exact ih0 _ _
      | exact LeO.none _
      | refine LeO.ite ?_ ?_
      | refine LeO.bind ?_ (fun _ => ?_)
set_option maxHeartbeats 8000000 in
set_option maxRecDepth 100000 in
theorem mancipleref9_Decimal.calls (k : Nat) (a0 : Int) (r : ByteArray) (w : World) (h : mancipleref9_Decimal.f k a0 = some r) :
    Calls Tryd.prog 17 #[.int .u64 a0] w fun e w' => e = .returned (.string r) ∧ Below w.heap.size w w' := by
  have HB := Aside0.mk (Below.refl w.heap.size w)
  have H : (mancipleref9_Decimal.l0 k a0 (strOfNums (([(IntKind.u64.wrap (48 + (Int.tmod a0 10))) % 256] : List Int)))) = some r := h
  clear h
  obtain ⟨y377, hy377⟩ : ∃ y_ : List Int, y_ = (([(IntKind.u64.wrap (48 + (Int.tmod a0 10))) % 256] : List Int)) := ⟨_, rfl⟩
  replace H : (mancipleref9_Decimal.l0 k a0 (strOfNums y377)) = some r := by first | (rw [hy377]; with_reducible exact H) | (have H2_ := (Option.bind_some _ _).symm.trans H; rw [hy377]; with_reducible exact H2_) | (have H2_ := (Option.bind_some _ _).symm.trans H; with_reducible exact H2_) | with_reducible exact H | (rw [hy377]; exact H) | exact H
  have Ny377 := Aside0.mk hy377
  clear hy377
  have H' := Aside0.mk H
  clear H
  go_enter Tryd.func17, Tryd.ntmps17
  go_wp2_with (first | ((with_reducible refine gate_dst (N := 8) rfl ?_); refine Kd.R_lit (Kd.int .u8) _ 5 ?hg (N := 8) ?hd (xs := ([(IntKind.u64.wrap (48 + (Int.tmod a0 10))) % 256] : List Int)) (inner := [.int .u8 ((IntKind.u64.wrap (48 + (Int.tmod a0 10))) % 256)]) (ok := fun _ => True) (okp := fun _ => True) ?hr ?hp (fun _ hk => hk) trivial (Below.refl _ _) (Nat.le_refl _) (by simp) ?_; (case hd => rfl); (case hg => rfl); (case hr => first | (go_simp; done) | (go_simp; rfl)); (case hp => exact (Reps.one (show Kd.M (Kd.int .u8) _ _ _ ((IntKind.u64.wrap (48 + (Int.tmod a0 10))) % 256) [.int .u8 ((IntKind.u64.wrap (48 + (Int.tmod a0 10))) % 256)] from rfl) (Reps.none _ _))); intro v378 w2 ho3 hb hg_ hnew_; clear hg_ hnew_; (first | rw [← Ny377.out] at ho3 | (simp only [Int.reduceToNat] at ho3; rw [← Ny377.out] at ho3)); have n0_ := Aside0.mk (Kd.R_lower ho3 (below_size (by repeat (first | (with_reducible first | exact HB.out | apply below_alloc | apply pw_below_drewN | apply below_drew1) | exact HB.out)))); have n1_ := Aside0.mk (below_step (by repeat (first | (with_reducible first | exact HB.out | apply below_alloc | apply pw_below_drewN | apply below_drew1) | exact HB.out)) hb); clear HB; have HO379 := n0_; have HB := n1_; clear n0_ n1_; clear hb ho3; have hcv4 := own_string (P := Tryd.prog) Tryd.underlying53 Tryd.underlying5 Tryd.underlying9 (Kd.own_of_R HO379.out)))
  go_loopg [0, 3] k (fun kq v0 v3 w' => ∃ (x0_1 : Int) (x3_1 : ByteArray), v0 = .int .u64 x0_1 ∧ v3 = .string x3_1 ∧ Aside0 (mancipleref9_Decimal.l0 kq x0_1 x3_1 = some r) ∧ Aside0 (kq ≤ k) ∧ Aside0 (Below w.heap.size w w'))
  case atStart => exact ⟨(a0), (strOfNums y377), (by first | rfl | (simp; done) | (simp [*]; done)), (by first | rfl | (simp; done) | (simp [*]; done)), H', ⟨Nat.le_refl _⟩, ⟨by repeat (first | (with_reducible first | exact HB.out | apply below_alloc | apply pw_below_drewN | apply below_drew1) | exact HB.out)⟩⟩
  case round =>
    clear H'
    try clear c1
    try clear p2
    try clear hcv4
    obtain ⟨x0_1, x3_1, rfl, rfl, HA, HK1, HB⟩ := hrel
    cases gk with
    | zero => exact absurd HA.out (by simp [mancipleref9_Decimal.l0])
    | succ k1 =>
      have H := HA.out
      clear HA
      simp only [mancipleref9_Decimal.l0] at H
      by_cases c5 : x0_1 ≥ 10
      · rw [if_pos c5] at H
        have c5b0 : decide (10 ≤ x0_1) = true := decide_eq_true c5
        clear c5
        obtain ⟨y380, hy380⟩ : ∃ y_ : List Int, y_ = (([(IntKind.u64.wrap (48 + (Int.tmod (IntKind.u64.wrap (Int.tdiv x0_1 10)) 10))) % 256] : List Int)) := ⟨_, rfl⟩
        replace H : (if (strOfNums y380).size + x3_1.size ≤ 9223372036854775807 then (mancipleref9_Decimal.l0 k1 (IntKind.u64.wrap (Int.tdiv x0_1 10)) ((strOfNums y380) ++ x3_1)) else (none)) = some r := by first | (rw [hy380]; with_reducible exact H) | (have H2_ := (Option.bind_some _ _).symm.trans H; rw [hy380]; with_reducible exact H2_) | (have H2_ := (Option.bind_some _ _).symm.trans H; with_reducible exact H2_) | with_reducible exact H | (rw [hy380]; exact H) | exact H
        have Ny380 := Aside0.mk hy380
        clear hy380
        by_cases c6 : (strOfNums y380).size + x3_1.size ≤ 9223372036854775807
        · rw [if_pos c6] at H
          have c6b0 := eq_true c6
          have c6b1 : decide ((strOfNums y380).size + x3_1.size ≤ 9223372036854775807) = true := decide_eq_true c6
          try have c6b2 : (9223372036854775807 < (strOfNums y380).size + x3_1.size) = False := eq_false (Nat.not_lt.2 c6)
          obtain ⟨y383, hy383⟩ : ∃ y_ : ByteArray, y_ = ((strOfNums y380) ++ x3_1) := ⟨_, rfl⟩
          replace H : (mancipleref9_Decimal.l0 k1 (IntKind.u64.wrap (Int.tdiv x0_1 10)) y383) = some r := by first | (rw [hy383]; with_reducible exact H) | (have H2_ := (Option.bind_some _ _).symm.trans H; rw [hy383]; with_reducible exact H2_) | (have H2_ := (Option.bind_some _ _).symm.trans H; with_reducible exact H2_) | with_reducible exact H | (rw [hy383]; exact H) | exact H
          have Ny383 := Aside0.mk hy383
          clear hy383
          have Ey383 : (strOfNums y380) ++ x3_1 = y383 := Ny383.out.symm
          have H' := Aside0.mk H
          clear H
          go_wp2_with (first | ((with_reducible refine gate_dst (N := 18) rfl ?_); refine Kd.R_lit (Kd.int .u8) _ 5 ?hg (N := 18) ?hd (xs := ([(IntKind.u64.wrap (48 + (Int.tmod (IntKind.u64.wrap (Int.tdiv x0_1 10)) 10))) % 256] : List Int)) (inner := [.int .u8 ((IntKind.u64.wrap (48 + (Int.tmod (IntKind.u64.wrap (Int.tdiv x0_1 10)) 10))) % 256)]) (ok := fun _ => True) (okp := fun _ => True) ?hr ?hp (fun _ hk => hk) trivial (Below.refl _ _) (Nat.le_refl _) (by simp) ?_; (case hd => rfl); (case hg => rfl); (case hr => first | (go_simp; done) | (go_simp; rfl)); (case hp => exact (Reps.one (show Kd.M (Kd.int .u8) _ _ _ ((IntKind.u64.wrap (48 + (Int.tmod (IntKind.u64.wrap (Int.tdiv x0_1 10)) 10))) % 256) [.int .u8 ((IntKind.u64.wrap (48 + (Int.tmod (IntKind.u64.wrap (Int.tdiv x0_1 10)) 10))) % 256)] from rfl) (Reps.none _ _))); intro v381 w7 ho8 hb hg_ hnew_; clear hg_ hnew_; (first | rw [← Ny380.out] at ho8 | (simp only [Int.reduceToNat] at ho8; rw [← Ny380.out] at ho8)); have n0_ := Aside0.mk (Kd.R_lower ho8 (below_size (by repeat (first | (with_reducible first | exact HB.out | apply below_alloc | apply pw_below_drewN | apply below_drew1) | exact HB.out)))); have n1_ := Aside0.mk (below_step (by repeat (first | (with_reducible first | exact HB.out | apply below_alloc | apply pw_below_drewN | apply below_drew1) | exact HB.out)) hb); clear HB; have HO382 := n0_; have HB := n1_; clear n0_ n1_; clear hb ho8; have hcv9 := own_string (P := Tryd.prog) Tryd.underlying53 Tryd.underlying5 Tryd.underlying9 (Kd.own_of_R HO382.out)))
          go_roundg k1
          case measure => have := HK1.out; omega
          case rel => exact ⟨(IntKind.u64.wrap (Int.tdiv x0_1 10)), (y383), (by first | rfl | (simp; done) | (simp [*]; done)), (by first | rfl | (simp; done) | (simp [*]; done)), H', ⟨by have := HK1.out; omega⟩, ⟨by repeat (first | (with_reducible first | exact HB.out | apply below_alloc | apply pw_below_drewN | apply below_drew1) | exact HB.out)⟩⟩
        · rw [if_neg c6] at H
          exact absurd H (by simp)
      · rw [if_neg c5] at H
        have c5b0 : decide (10 ≤ x0_1) = false := decide_eq_false c5
        clear c5
        obtain rfl := Option.some.inj H
        go_wp2
        go_ret
        exact ⟨by first | rfl | (simp [errW_none, errW_some] <;> rfl) | (simp [*, errW_none, errW_some] <;> rfl), by repeat (first | (with_reducible first | exact HB.out | apply below_alloc | apply pw_below_drewN | apply below_drew1) | exact HB.out)⟩
end Go.Proofs.YtpijehmhgjkkoaaDoor.Q
namespace Go.Proofs.YtpijehmhgjkkoaaDoor.Q
open Go.RowKit Go.Proofs.YtpijehmhgjkkoaaDoorW.PrintWords Go.Proofs.YtpijehmhgjkkoaaDoorW.PrintLast Go.Proofs.YtpijehmhgjkkoaaDoorW.PrintMore
attribute [local go_sem] max2_int min2_int max_two min_two max_three min_three max_four min_four   -- for this text's walks alone
set_option linter.unusedVariables false
set_option linter.unusedSimpArgs false
/-! ### manciplelaw1_VerNumbers: function 6 -/
mutual
def manciplelaw1_VerNumbers.l0 : Nat → Int → Int → Int → Bool → ByteArray → ByteArray → Int → Option (Bool)
  | 0, _, _, _, _, _, _, _ => none
  | k + 1, x0, x1, x2, x3, x9, x10, x11 => if x11 < (wrap64 (Int.tmod x2 9)) then (if 1 + x9.size ≤ 9223372036854775807 then (manciplelaw1_VerNumbers.l0 k x0 x1 x2 x3 ((⟨#[48]⟩ : ByteArray) ++ x9) x10 (wrap64 (x11 + 1))) else (none)) else (if x0 < x1 then (manciplelaw1_VerNumbers.j1 k x0 x1 x3 x9 x10 (-1)) else (manciplelaw1_VerNumbers.j1 k x0 x1 x3 x9 x10 0))
def manciplelaw1_VerNumbers.j1 : Nat → Int → Int → Bool → ByteArray → ByteArray → Int → Option (Bool)
  | 0, _, _, _, _, _, _ => none
  | k + 1, x0, x1, x3, x9, x10, x12 => if x0 > x1 then (manciplelaw1_VerNumbers.j2 k x3 x9 x10 1) else (manciplelaw1_VerNumbers.j2 k x3 x9 x10 x12)
def manciplelaw1_VerNumbers.j2 : Nat → Bool → ByteArray → ByteArray → Int → Option (Bool)
  | 0, _, _, _, _ => none
  | k + 1, x3, x9, x10, x12 => if x3 = true then (if 2 + x9.size ≤ 9223372036854775807 then ((ver_Compare.f k ((⟨#[49, 58]⟩ : ByteArray) ++ x9) x10).bind fun t389 => (if t389 = 1 then (if 2 + x10.size ≤ 9223372036854775807 then ((ver_Compare.f k ((⟨#[50, 58]⟩ : ByteArray) ++ x9) ((⟨#[49, 58]⟩ : ByteArray) ++ x10)).bind fun t392 => (if t392 = 1 then ((ver_Compare.f k ((⟨#[48, 58]⟩ : ByteArray) ++ x9) x10).bind fun t394 => (some (t394 == x12))) else (some false))) else (none)) else (some false))) else (none)) else ((ver_Compare.f k x9 x10).bind fun t395 => (if t395 = x12 then (if 2 + x9.size ≤ 9223372036854775807 then ((some ((⟨#[49, 46]⟩ : ByteArray) ++ x9 : ByteArray)).bind fun y396 => (if 2 + x10.size ≤ 9223372036854775807 then ((ver_Compare.f k y396 ((⟨#[49, 46]⟩ : ByteArray) ++ x10)).bind fun t398 => (if t398 = x12 then ((ver_Compare.f k ((⟨#[49, 45]⟩ : ByteArray) ++ x9) ((⟨#[49, 45]⟩ : ByteArray) ++ x10)).bind fun t401 => (if t401 = x12 then ((ver_Compare.f k ((⟨#[49, 126]⟩ : ByteArray) ++ x9) (⟨#[49]⟩ : ByteArray)).bind fun t403 => (if t403 = (-1) then ((ver_Compare.f k y396 (⟨#[49]⟩ : ByteArray)).bind fun t404 => (some (t404 == 1))) else (some false))) else (some false))) else (some false))) else (none))) else (none)) else (some false)))
end
def manciplelaw1_VerNumbers.f (k : Nat) (a0 : Int) (a1 : Int) (a2 : Int) (a3 : Bool) : Option (Bool) := (manciplelaw1_known.f k).bind fun t384 => (if t384 = true then ((mancipleref9_Decimal.f k (IntKind.u64.wrap (a0))).bind fun t385 => ((mancipleref9_Decimal.f k (IntKind.u64.wrap (a1))).bind fun t386 => (manciplelaw1_VerNumbers.l0 k a0 a1 a2 a3 t385 t386 0))) else (some false))
theorem manciplelaw1_VerNumbers.mono_l : ∀ k, (∀ y0 y1 y2 y3 y4 y5 y6, LeO (manciplelaw1_VerNumbers.l0 k y0 y1 y2 y3 y4 y5 y6) (manciplelaw1_VerNumbers.l0 (k + 1) y0 y1 y2 y3 y4 y5 y6)) ∧ (∀ y0 y1 y2 y3 y4 y5, LeO (manciplelaw1_VerNumbers.j1 k y0 y1 y2 y3 y4 y5) (manciplelaw1_VerNumbers.j1 (k + 1) y0 y1 y2 y3 y4 y5)) ∧ (∀ y0 y1 y2 y3, LeO (manciplelaw1_VerNumbers.j2 k y0 y1 y2 y3) (manciplelaw1_VerNumbers.j2 (k + 1) y0 y1 y2 y3))
  | 0 => ⟨fun _ _ _ _ _ _ _ r h => by simp [manciplelaw1_VerNumbers.l0] at h, fun _ _ _ _ _ _ r h => by simp [manciplelaw1_VerNumbers.j1] at h, fun _ _ _ _ r h => by simp [manciplelaw1_VerNumbers.j2] at h⟩
  | k + 1 => by
    obtain ⟨ih0, ih1, ih2⟩ := manciplelaw1_VerNumbers.mono_l k
    refine ⟨?_, ?_, ?_⟩
    · intro y0 y1 y2 y3 y4 y5 y6
      unfold manciplelaw1_VerNumbers.l0
      repeat' first
      | (with_reducible exact ih0 _ _ _ _ _ _ _)
      | (with_reducible exact ih1 _ _ _ _ _ _)
      | (with_reducible exact ih2 _ _ _ _)
      | (with_reducible exact manciplelaw1_known.mono _)
      | (with_reducible exact mancipleref9_Decimal.mono _ _)
      | (with_reducible exact ver_Compare.mono _ _ _)
      | (with_reducible exact LeO.refl _)
      | (with_reducible exact LeO.none _)
      | (with_reducible refine LeO.ite ?_ ?_)
      | (with_reducible refine LeO.bind ?_ (fun _ => ?_))
      | exact ih0 _ _ _ _ _ _ _
      | exact ih1 _ _ _ _ _ _
      | exact ih2 _ _ _ _
      | exact manciplelaw1_known.mono _
      | exact mancipleref9_Decimal.mono _ _
      | exact ver_Compare.mono _ _ _
      | exact LeO.none _
      | refine LeO.ite ?_ ?_
      | refine LeO.bind ?_ (fun _ => ?_)
    · intro y0 y1 y2 y3 y4 y5
      unfold manciplelaw1_VerNumbers.j1
      repeat' first
      | (with_reducible exact ih0 _ _ _ _ _ _ _)
      | (with_reducible exact ih1 _ _ _ _ _ _)
      | (with_reducible exact ih2 _ _ _ _)
      | (with_reducible exact manciplelaw1_known.mono _)
      | (with_reducible exact mancipleref9_Decimal.mono _ _)
      | (with_reducible exact ver_Compare.mono _ _ _)
      | (with_reducible exact LeO.refl _)
      | (with_reducible exact LeO.none _)
      | (with_reducible refine LeO.ite ?_ ?_)
      | (with_reducible refine LeO.bind ?_ (fun _ => ?_))
      | exact ih0 _ _ _ _ _ _ _
      | exact ih1 _ _ _ _ _ _
      | exact ih2 _ _ _ _
      | exact manciplelaw1_known.mono _
      | exact mancipleref9_Decimal.mono _ _
      | exact ver_Compare.mono _ _ _
      | exact LeO.none _
      | refine LeO.ite ?_ ?_
      | refine LeO.bind ?_ (fun _ => ?_)
    · intro y0 y1 y2 y3
      unfold manciplelaw1_VerNumbers.j2
      repeat' first
      | (with_reducible exact ih0 _ _ _ _ _ _ _)
      | (with_reducible exact ih1 _ _ _ _ _ _)
      | (with_reducible exact ih2 _ _ _ _)
      | (with_reducible exact manciplelaw1_known.mono _)
      | (with_reducible exact mancipleref9_Decimal.mono _ _)
      | (with_reducible exact ver_Compare.mono _ _ _)
      | (with_reducible exact LeO.refl _)
      | (with_reducible exact LeO.none _)
      | (with_reducible refine LeO.ite ?_ ?_)
      | (with_reducible refine LeO.bind ?_ (fun _ => ?_))
      | exact ih0 _ _ _ _ _ _ _
      | exact ih1 _ _ _ _ _ _
      | exact ih2 _ _ _ _
      | exact manciplelaw1_known.mono _
      | exact mancipleref9_Decimal.mono _ _
      | exact ver_Compare.mono _ _ _
      | exact LeO.none _
      | refine LeO.ite ?_ ?_
      | refine LeO.bind ?_ (fun _ => ?_)
theorem manciplelaw1_VerNumbers.mono : ∀ a0 a1 a2 a3 k, LeO (manciplelaw1_VerNumbers.f k a0 a1 a2 a3) (manciplelaw1_VerNumbers.f (k + 1) a0 a1 a2 a3) := by
  intro a0 a1 a2 a3 k
  obtain ⟨ih0, ih1, ih2⟩ := manciplelaw1_VerNumbers.mono_l k
  unfold manciplelaw1_VerNumbers.f
  repeat' first
      | (with_reducible exact ih0 _ _ _ _ _ _ _)
      | (with_reducible exact ih1 _ _ _ _ _ _)
      | (with_reducible exact ih2 _ _ _ _)
      | (with_reducible exact manciplelaw1_known.mono _)
      | (with_reducible exact mancipleref9_Decimal.mono _ _)
      | (with_reducible exact ver_Compare.mono _ _ _)
      | (with_reducible exact LeO.refl _)
      | (with_reducible exact LeO.none _)
      | (with_reducible refine LeO.ite ?_ ?_)
      | (with_reducible refine LeO.bind ?_ (fun _ => ?_))
      | exact ih0 _ _ _ _ _ _ _
      | exact ih1 _ _ _ _ _ _
      | exact ih2 _ _ _ _
      | exact manciplelaw1_known.mono _
      | exact mancipleref9_Decimal.mono _ _
      | exact ver_Compare.mono _ _ _
      | exact LeO.none _
      | refine LeO.ite ?_ ?_
      | refine LeO.bind ?_ (fun _ => ?_)
set_option maxHeartbeats 8000000 in
set_option maxRecDepth 100000 in
theorem manciplelaw1_VerNumbers.calls (k : Nat) (a0 : Int) (a1 : Int) (a2 : Int) (a3 : Bool) (r : Bool) (w : World) (h : manciplelaw1_VerNumbers.f k a0 a1 a2 a3 = some r) :
    Calls Tryd.prog 6 #[.int .u32 a0, .int .u32 a1, .int .u8 a2, .bool a3] w fun e w' => e = .returned (.bool r) ∧ Below w.heap.size w w' := by
  have HB := Aside0.mk (Below.refl w.heap.size w)
  have H : ((manciplelaw1_known.f k).bind fun t384 => (if t384 = true then ((mancipleref9_Decimal.f k (IntKind.u64.wrap (a0))).bind fun t385 => ((mancipleref9_Decimal.f k (IntKind.u64.wrap (a1))).bind fun t386 => (manciplelaw1_VerNumbers.l0 k a0 a1 a2 a3 t385 t386 0))) else (some false))) = some r := h
  clear h
  replace H := Option.bind_eq_some_iff.mp H
  obtain ⟨t384, A50, H⟩ := H
  replace H : (if t384 = true then ((mancipleref9_Decimal.f k (IntKind.u64.wrap (a0))).bind fun t385 => ((mancipleref9_Decimal.f k (IntKind.u64.wrap (a1))).bind fun t386 => (manciplelaw1_VerNumbers.l0 k a0 a1 a2 a3 t385 t386 0))) else (some false)) = some r := H
  have A5 := Aside0.mk A50
  clear A50
  by_cases c6 : t384 = true
  · subst c6
    have H1 : ((mancipleref9_Decimal.f k (IntKind.u64.wrap (a0))).bind fun t385 => ((mancipleref9_Decimal.f k (IntKind.u64.wrap (a1))).bind fun t386 => (manciplelaw1_VerNumbers.l0 k a0 a1 a2 a3 t385 t386 0))) = some r := by rw [if_pos rfl] at H; exact H
    clear H
    have H := H1
    clear H1
    replace H := Option.bind_eq_some_iff.mp H
    obtain ⟨t385, A70, H⟩ := H
    replace H : ((mancipleref9_Decimal.f k (IntKind.u64.wrap (a1))).bind fun t386 => (manciplelaw1_VerNumbers.l0 k a0 a1 a2 a3 t385 t386 0)) = some r := H
    have A7 := Aside0.mk A70
    clear A70
    replace H := Option.bind_eq_some_iff.mp H
    obtain ⟨t386, A80, H⟩ := H
    replace H : (manciplelaw1_VerNumbers.l0 k a0 a1 a2 a3 t385 t386 0) = some r := H
    have A8 := Aside0.mk A80
    clear A80
    have H' := Aside0.mk H
    clear H
    go_enter Tryd.func6, Tryd.ntmps6
    go_wp2_with (first | ((with_reducible refine gate_callee (f := 8) rfl ?_); refine goesL_ (some 13) rfl rfl Tryd.func8 (by kernel_rfl) rfl #[] rfl (by (try simp only [List.map_toArray, List.map_cons, List.map_nil]); first | done | rfl | (simp only [List.length_drop, List.length_take]; rfl)) ?_; (with_reducible refine (manciplelaw1_known.calls k  true _ A5.out).mono ?_); rintro e w9 ⟨rfl, hb⟩; refine ⟨_, rfl, ?_⟩; have n0_ := Aside0.mk (below_step (by repeat (first | (with_reducible first | exact HB.out | apply below_alloc | apply pw_below_drewN | apply below_drew1) | exact HB.out)) hb); clear HB; have HB := n0_; clear n0_; (try clear hb); (try clear hb2); (try clear hk); (try clear hi)) | ((with_reducible refine gate_callee (f := 17) rfl ?_); refine goesL_ (some 17) rfl rfl Tryd.func17 (by kernel_rfl) rfl #[.int .u64 (IntKind.u64.wrap (a0))] rfl (by (try simp only [List.map_toArray, List.map_cons, List.map_nil]); first | done | rfl | (simp only [List.length_drop, List.length_take]; rfl)) ?_; (with_reducible refine (mancipleref9_Decimal.calls k (IntKind.u64.wrap (a0)) t385 _ A7.out).mono ?_); rintro e w10 ⟨rfl, hb⟩; refine ⟨_, rfl, ?_⟩; have n0_ := Aside0.mk (below_step (by repeat (first | (with_reducible first | exact HB.out | apply below_alloc | apply pw_below_drewN | apply below_drew1) | exact HB.out)) hb); clear HB; have HB := n0_; clear n0_; (try clear hb); (try clear hb2); (try clear hk); (try clear hi)) | ((with_reducible refine gate_callee (f := 17) rfl ?_); refine goesL_ (some 20) rfl rfl Tryd.func17 (by kernel_rfl) rfl #[.int .u64 (IntKind.u64.wrap (a1))] rfl (by (try simp only [List.map_toArray, List.map_cons, List.map_nil]); first | done | rfl | (simp only [List.length_drop, List.length_take]; rfl)) ?_; (with_reducible refine (mancipleref9_Decimal.calls k (IntKind.u64.wrap (a1)) t386 _ A8.out).mono ?_); rintro e w11 ⟨rfl, hb⟩; refine ⟨_, rfl, ?_⟩; have n0_ := Aside0.mk (below_step (by repeat (first | (with_reducible first | exact HB.out | apply below_alloc | apply pw_below_drewN | apply below_drew1) | exact HB.out)) hb); clear HB; have HB := n0_; clear n0_; (try clear hb); (try clear hb2); (try clear hk); (try clear hi)))
    go_loopg [9, 11] k (fun kq v9 v11 w' => ∃ (x9_1 : ByteArray) (x11_1 : Int), v9 = .string x9_1 ∧ v11 = .int .i64 x11_1 ∧ Aside0 (manciplelaw1_VerNumbers.l0 kq a0 a1 a2 a3 x9_1 t386 x11_1 = some r) ∧ Aside0 (kq ≤ k) ∧ Aside0 (Below w.heap.size w w'))
    case atStart => exact ⟨(t385), (0), (by first | rfl | (simp; done) | (simp [*]; done)), (by first | rfl | (simp; done) | (simp [*]; done)), H', ⟨Nat.le_refl _⟩, ⟨by repeat (first | (with_reducible first | exact HB.out | apply below_alloc | apply pw_below_drewN | apply below_drew1) | exact HB.out)⟩⟩
    case round =>
      clear H'
      try clear c1
      try clear p2
      try clear c6
      try clear c8
      obtain ⟨x9_1, x11_1, rfl, rfl, HA, HK1, HB⟩ := hrel
      cases gk with
      | zero => exact absurd HA.out (by simp [manciplelaw1_VerNumbers.l0])
      | succ k1 =>
        have H := HA.out
        clear HA
        simp only [manciplelaw1_VerNumbers.l0] at H
        by_cases c12 : x11_1 < (wrap64 (Int.tmod a2 9))
        · rw [if_pos c12] at H
          have c12b0 : decide (x11_1 < (wrap64 (Int.tmod a2 9))) = true := decide_eq_true c12
          clear c12
          by_cases c13 : 1 + x9_1.size ≤ 9223372036854775807
          · rw [if_pos c13] at H
            have c13b0 := eq_true c13
            have c13b1 : decide (1 + x9_1.size ≤ 9223372036854775807) = true := decide_eq_true c13
            try have c13b2 : (9223372036854775807 < 1 + x9_1.size) = False := eq_false (Nat.not_lt.2 c13)
            obtain ⟨y387, hy387⟩ : ∃ y_ : ByteArray, y_ = ((⟨#[48]⟩ : ByteArray) ++ x9_1) := ⟨_, rfl⟩
            replace H : (manciplelaw1_VerNumbers.l0 k1 a0 a1 a2 a3 y387 t386 (wrap64 (x11_1 + 1))) = some r := by first | (rw [hy387]; with_reducible exact H) | (have H2_ := (Option.bind_some _ _).symm.trans H; rw [hy387]; with_reducible exact H2_) | (have H2_ := (Option.bind_some _ _).symm.trans H; with_reducible exact H2_) | with_reducible exact H | (rw [hy387]; exact H) | exact H
            have Ny387 := Aside0.mk hy387
            clear hy387
            have Ey387 : (⟨#[48]⟩ : ByteArray) ++ x9_1 = y387 := Ny387.out.symm
            have H' := Aside0.mk H
            clear H
            go_wp2
            go_roundg k1
            case measure => have := HK1.out; omega
            case rel => exact ⟨(y387), (wrap64 (x11_1 + 1)), (by first | rfl | (simp; done) | (simp [*]; done)), (by first | rfl | (simp; done) | (simp [*]; done)), H', ⟨by have := HK1.out; omega⟩, ⟨by repeat (first | (with_reducible first | exact HB.out | apply below_alloc | apply pw_below_drewN | apply below_drew1) | exact HB.out)⟩⟩
          · rw [if_neg c13] at H
            exact absurd H (by simp)
        · rw [if_neg c12] at H
          have c12b0 : decide (x11_1 < (wrap64 (Int.tmod a2 9))) = false := decide_eq_false c12
          clear c12
          have HC14 := Aside0.mk H
          clear H
          go_upto_if 32 with (fail)
          go_cut [12] (fun v12 wc => ∃ (kq : Nat) (x12_13 : Int), v12 = .int .i64 x12_13 ∧ Aside0 (manciplelaw1_VerNumbers.j1 kq a0 a1 a3 x9_1 t386 x12_13 = some r) ∧ Aside0 (kq ≤ k1) ∧ Aside0 (Below w.heap.size w wc))
          case first =>
            have H := HC14.out
            clear HC14
            by_cases c15 : a0 < a1
            · rw [if_pos c15] at H
              have c15b0 : decide (a0 < a1) = true := decide_eq_true c15
              clear c15
              (first | rw [c15b0] | (simp only [i64_w, i32_w]; rw [c15b0]) | rw [c15b2] | skip)
              have H' := Aside0.mk H
              clear H
              go_wp2
              go_meet
              case rel => exact ⟨_, ((-1)), (by first | rfl | (simp; done) | (simp [*]; done)), H', ⟨by have := HK1.out; first | omega | exact Nat.le_refl _⟩, ⟨by repeat (first | (with_reducible first | exact HB.out | apply below_alloc | apply pw_below_drewN | apply below_drew1) | exact HB.out)⟩⟩
            · rw [if_neg c15] at H
              have c15b0 : decide (a0 < a1) = false := decide_eq_false c15
              clear c15
              (first | rw [c15b0] | (simp only [i64_w, i32_w]; rw [c15b0]) | rw [c15b2] | skip)
              have H' := Aside0.mk H
              clear H
              go_wp2
              go_meet
              case rel => exact ⟨_, (0), (by first | rfl | (simp; done) | (simp [*]; done)), H', ⟨by have := HK1.out; first | omega | exact Nat.le_refl _⟩, ⟨by repeat (first | (with_reducible first | exact HB.out | apply below_alloc | apply pw_below_drewN | apply below_drew1) | exact HB.out)⟩⟩
          case rest =>
            clear HC14
            try clear c1
            try clear p2
            try clear c6
            try clear p6
            try clear c8
            try clear c12
            try clear c12b0
            try clear c13
            try clear c13b0
            try clear c13b1
            try clear c13b2
            try clear c15
            try clear c15b0
            try clear c15b2
            try clear p2
            obtain ⟨kq, x12_13, rfl, HA, HJ13, HB⟩ := hcut
            cases kq with
            | zero => exact absurd HA.out (by simp [manciplelaw1_VerNumbers.j1])
            | succ kj13 =>
              have H := HA.out
              clear HA
              simp only [manciplelaw1_VerNumbers.j1] at H
              have HC16 := Aside0.mk H
              clear H
              go_upto_if 35 with (fail)
              go_cut [12] (fun v12 wc => ∃ (kq : Nat) (x12_15 : Int), v12 = .int .i64 x12_15 ∧ Aside0 (manciplelaw1_VerNumbers.j2 kq a3 x9_1 t386 x12_15 = some r) ∧ Aside0 (kq ≤ kj13) ∧ Aside0 (Below w.heap.size w wc))
              case first =>
                have H := HC16.out
                clear HC16
                by_cases c17 : a0 > a1
                · rw [if_pos c17] at H
                  have c17b0 : decide (a1 < a0) = true := decide_eq_true c17
                  clear c17
                  (first | rw [c17b0] | (simp only [i64_w, i32_w]; rw [c17b0]) | rw [c17b2] | skip)
                  have H' := Aside0.mk H
                  clear H
                  go_wp2
                  go_meet
                  case rel => exact ⟨_, (1), (by first | rfl | (simp; done) | (simp [*]; done)), H', ⟨by have := HK1.out; have := HJ13.out; first | omega | exact Nat.le_refl _⟩, ⟨by repeat (first | (with_reducible first | exact HB.out | apply below_alloc | apply pw_below_drewN | apply below_drew1) | exact HB.out)⟩⟩
                · rw [if_neg c17] at H
                  have c17b0 : decide (a1 < a0) = false := decide_eq_false c17
                  clear c17
                  (first | rw [c17b0] | (simp only [i64_w, i32_w]; rw [c17b0]) | rw [c17b2] | skip)
                  have H' := Aside0.mk H
                  clear H
                  go_wp2
                  go_meet
                  case rel => exact ⟨_, (x12_13), (by first | rfl | (simp; done) | (simp [*]; done)), H', ⟨by have := HK1.out; have := HJ13.out; first | omega | exact Nat.le_refl _⟩, ⟨by repeat (first | (with_reducible first | exact HB.out | apply below_alloc | apply pw_below_drewN | apply below_drew1) | exact HB.out)⟩⟩
              case rest =>
                clear HC16
                try clear c1
                try clear p2
                try clear c6
                try clear p6
                try clear c8
                try clear c12
                try clear c12b0
                try clear c13
                try clear c13b0
                try clear c13b1
                try clear c13b2
                try clear c15
                try clear c15b0
                try clear c15b2
                try clear c17
                try clear c17b0
                try clear c17b2
                try clear p2
                try clear p6
                obtain ⟨kq, x12_15, rfl, HA, HJ15, HB⟩ := hcut
                cases kq with
                | zero => exact absurd HA.out (by simp [manciplelaw1_VerNumbers.j2])
                | succ kj15 =>
                  have H := HA.out
                  clear HA
                  simp only [manciplelaw1_VerNumbers.j2] at H
                  by_cases c18 : a3 = true
                  · subst c18
                    have H1 : (if 2 + x9_1.size ≤ 9223372036854775807 then ((ver_Compare.f kj15 ((⟨#[49, 58]⟩ : ByteArray) ++ x9_1) t386).bind fun t389 => (if t389 = 1 then (if 2 + t386.size ≤ 9223372036854775807 then ((ver_Compare.f kj15 ((⟨#[50, 58]⟩ : ByteArray) ++ x9_1) ((⟨#[49, 58]⟩ : ByteArray) ++ t386)).bind fun t392 => (if t392 = 1 then ((ver_Compare.f kj15 ((⟨#[48, 58]⟩ : ByteArray) ++ x9_1) t386).bind fun t394 => (some (t394 == x12_15))) else (some false))) else (none)) else (some false))) else (none)) = some r := by rw [if_pos rfl] at H; exact H
                    clear H
                    have H := H1
                    clear H1
                    by_cases c19 : 2 + x9_1.size ≤ 9223372036854775807
                    · rw [if_pos c19] at H
                      have c19b0 := eq_true c19
                      have c19b1 : decide (2 + x9_1.size ≤ 9223372036854775807) = true := decide_eq_true c19
                      try have c19b2 : (9223372036854775807 < 2 + x9_1.size) = False := eq_false (Nat.not_lt.2 c19)
                      obtain ⟨y388, hy388⟩ : ∃ y_ : ByteArray, y_ = ((⟨#[49, 58]⟩ : ByteArray) ++ x9_1) := ⟨_, rfl⟩
                      replace H : ((ver_Compare.f kj15 y388 t386).bind fun t389 => (if t389 = 1 then (if 2 + t386.size ≤ 9223372036854775807 then ((ver_Compare.f kj15 ((⟨#[50, 58]⟩ : ByteArray) ++ x9_1) ((⟨#[49, 58]⟩ : ByteArray) ++ t386)).bind fun t392 => (if t392 = 1 then ((ver_Compare.f kj15 ((⟨#[48, 58]⟩ : ByteArray) ++ x9_1) t386).bind fun t394 => (some (t394 == x12_15))) else (some false))) else (none)) else (some false))) = some r := by first | (rw [hy388]; with_reducible exact H) | (have H2_ := (Option.bind_some _ _).symm.trans H; rw [hy388]; with_reducible exact H2_) | (have H2_ := (Option.bind_some _ _).symm.trans H; with_reducible exact H2_) | with_reducible exact H | (rw [hy388]; exact H) | exact H
                      have Ny388 := Aside0.mk hy388
                      clear hy388
                      have Ey388 : (⟨#[49, 58]⟩ : ByteArray) ++ x9_1 = y388 := Ny388.out.symm
                      replace H := Option.bind_eq_some_iff.mp H
                      obtain ⟨t389, A200, H⟩ := H
                      replace H : (if t389 = 1 then (if 2 + t386.size ≤ 9223372036854775807 then ((ver_Compare.f kj15 ((⟨#[50, 58]⟩ : ByteArray) ++ x9_1) ((⟨#[49, 58]⟩ : ByteArray) ++ t386)).bind fun t392 => (if t392 = 1 then ((ver_Compare.f kj15 ((⟨#[48, 58]⟩ : ByteArray) ++ x9_1) t386).bind fun t394 => (some (t394 == x12_15))) else (some false))) else (none)) else (some false)) = some r := H
                      have A20 := Aside0.mk A200
                      clear A200
                      by_cases c21 : t389 = 1
                      · rw [if_pos c21] at H
                        have c21b0 : (t389 == 1) = true := beq_iff_eq.mpr c21
                        have c21b1 : (t389 != 1) = false := bne_eq_false_iff_eq.mpr c21
                        clear c21
                        obtain ⟨y390, hy390⟩ : ∃ y_ : ByteArray, y_ = ((⟨#[50, 58]⟩ : ByteArray) ++ x9_1) := ⟨_, rfl⟩
                        replace H : (if 2 + t386.size ≤ 9223372036854775807 then ((ver_Compare.f kj15 y390 ((⟨#[49, 58]⟩ : ByteArray) ++ t386)).bind fun t392 => (if t392 = 1 then ((ver_Compare.f kj15 ((⟨#[48, 58]⟩ : ByteArray) ++ x9_1) t386).bind fun t394 => (some (t394 == x12_15))) else (some false))) else (none)) = some r := by first | (rw [hy390]; with_reducible exact H) | (have H2_ := (Option.bind_some _ _).symm.trans H; rw [hy390]; with_reducible exact H2_) | (have H2_ := (Option.bind_some _ _).symm.trans H; with_reducible exact H2_) | with_reducible exact H | (rw [hy390]; exact H) | exact H
                        have Ny390 := Aside0.mk hy390
                        clear hy390
                        have Ey390 : (⟨#[50, 58]⟩ : ByteArray) ++ x9_1 = y390 := Ny390.out.symm
                        by_cases c22 : 2 + t386.size ≤ 9223372036854775807
                        · rw [if_pos c22] at H
                          have c22b0 := eq_true c22
                          have c22b1 : decide (2 + t386.size ≤ 9223372036854775807) = true := decide_eq_true c22
                          try have c22b2 : (9223372036854775807 < 2 + t386.size) = False := eq_false (Nat.not_lt.2 c22)
                          obtain ⟨y391, hy391⟩ : ∃ y_ : ByteArray, y_ = ((⟨#[49, 58]⟩ : ByteArray) ++ t386) := ⟨_, rfl⟩
                          replace H : ((ver_Compare.f kj15 y390 y391).bind fun t392 => (if t392 = 1 then ((ver_Compare.f kj15 ((⟨#[48, 58]⟩ : ByteArray) ++ x9_1) t386).bind fun t394 => (some (t394 == x12_15))) else (some false))) = some r := by first | (rw [hy391]; with_reducible exact H) | (have H2_ := (Option.bind_some _ _).symm.trans H; rw [hy391]; with_reducible exact H2_) | (have H2_ := (Option.bind_some _ _).symm.trans H; with_reducible exact H2_) | with_reducible exact H | (rw [hy391]; exact H) | exact H
                          have Ny391 := Aside0.mk hy391
                          clear hy391
                          have Ey391 : (⟨#[49, 58]⟩ : ByteArray) ++ t386 = y391 := Ny391.out.symm
                          replace H := Option.bind_eq_some_iff.mp H
                          obtain ⟨t392, A230, H⟩ := H
                          replace H : (if t392 = 1 then ((ver_Compare.f kj15 ((⟨#[48, 58]⟩ : ByteArray) ++ x9_1) t386).bind fun t394 => (some (t394 == x12_15))) else (some false)) = some r := H
                          have A23 := Aside0.mk A230
                          clear A230
                          by_cases c24 : t392 = 1
                          · rw [if_pos c24] at H
                            have c24b0 : (t392 == 1) = true := beq_iff_eq.mpr c24
                            have c24b1 : (t392 != 1) = false := bne_eq_false_iff_eq.mpr c24
                            clear c24
                            obtain ⟨y393, hy393⟩ : ∃ y_ : ByteArray, y_ = ((⟨#[48, 58]⟩ : ByteArray) ++ x9_1) := ⟨_, rfl⟩
                            replace H : ((ver_Compare.f kj15 y393 t386).bind fun t394 => (some (t394 == x12_15))) = some r := by first | (rw [hy393]; with_reducible exact H) | (have H2_ := (Option.bind_some _ _).symm.trans H; rw [hy393]; with_reducible exact H2_) | (have H2_ := (Option.bind_some _ _).symm.trans H; with_reducible exact H2_) | with_reducible exact H | (rw [hy393]; exact H) | exact H
                            have Ny393 := Aside0.mk hy393
                            clear hy393
                            have Ey393 : (⟨#[48, 58]⟩ : ByteArray) ++ x9_1 = y393 := Ny393.out.symm
                            replace H := Option.bind_eq_some_iff.mp H
                            obtain ⟨t394, A250, H⟩ := H
                            replace H : (some (t394 == x12_15)) = some r := H
                            have A25 := Aside0.mk A250
                            clear A250
                            obtain rfl := Option.some.inj H
                            go_wp2_with (first | ((with_reducible refine gate_callee (f := 15) rfl ?_); refine goesL_ (some 40) rfl rfl Tryd.func15 (by kernel_rfl) rfl #[.string y388, .string t386] rfl (by (try simp only [List.map_toArray, List.map_cons, List.map_nil]); first | done | rfl | (simp only [List.length_drop, List.length_take]; rfl)) ?_; (with_reducible refine (ver_Compare.calls kj15 y388 t386 t389 _ A20.out).mono ?_); rintro e w26 ⟨rfl, hb⟩; refine ⟨_, rfl, ?_⟩; have n0_ := Aside0.mk (below_step (by repeat (first | (with_reducible first | exact HB.out | apply below_alloc | apply pw_below_drewN | apply below_drew1) | exact HB.out)) hb); clear HB; have HB := n0_; clear n0_; (try clear hb); (try clear hb2); (try clear hk); (try clear hi)) | (go_at_call 15; (with_reducible refine (ver_Compare.calls kj15 y390 y391 t392 _ A23.out).mono ?_); rintro e w27 ⟨rfl, hb⟩; have n0_ := Aside0.mk (below_step (by repeat (first | (with_reducible first | exact HB.out | apply below_alloc | apply pw_below_drewN | apply below_drew1) | exact HB.out)) hb); clear HB; have HB := n0_; clear n0_; (try clear hb); (try clear hb2); (try clear hk); (try clear hi)) | (go_at_call 15; (with_reducible refine (ver_Compare.calls kj15 y393 t386 t394 _ A25.out).mono ?_); rintro e w28 ⟨rfl, hb⟩; have n0_ := Aside0.mk (below_step (by repeat (first | (with_reducible first | exact HB.out | apply below_alloc | apply pw_below_drewN | apply below_drew1) | exact HB.out)) hb); clear HB; have HB := n0_; clear n0_; (try clear hb); (try clear hb2); (try clear hk); (try clear hi)))
                            go_ret
                            exact ⟨by first | rfl | (simp [errW_none, errW_some] <;> rfl) | (simp [*, errW_none, errW_some] <;> rfl), by repeat (first | (with_reducible first | exact HB.out | apply below_alloc | apply pw_below_drewN | apply below_drew1) | exact HB.out)⟩
                          · rw [if_neg c24] at H
                            have c24b0 : (t392 == 1) = false := beq_eq_false_iff_ne.mpr c24
                            have c24b1 : (t392 != 1) = true := bne_iff_ne.mpr c24
                            obtain rfl := Option.some.inj H
                            go_wp2_with (first | ((with_reducible refine gate_callee (f := 15) rfl ?_); refine goesL_ (some 40) rfl rfl Tryd.func15 (by kernel_rfl) rfl #[.string y388, .string t386] rfl (by (try simp only [List.map_toArray, List.map_cons, List.map_nil]); first | done | rfl | (simp only [List.length_drop, List.length_take]; rfl)) ?_; (with_reducible refine (ver_Compare.calls kj15 y388 t386 t389 _ A20.out).mono ?_); rintro e w29 ⟨rfl, hb⟩; refine ⟨_, rfl, ?_⟩; have n0_ := Aside0.mk (below_step (by repeat (first | (with_reducible first | exact HB.out | apply below_alloc | apply pw_below_drewN | apply below_drew1) | exact HB.out)) hb); clear HB; have HB := n0_; clear n0_; (try clear hb); (try clear hb2); (try clear hk); (try clear hi)) | (go_at_call 15; (with_reducible refine (ver_Compare.calls kj15 y390 y391 t392 _ A23.out).mono ?_); rintro e w30 ⟨rfl, hb⟩; have n0_ := Aside0.mk (below_step (by repeat (first | (with_reducible first | exact HB.out | apply below_alloc | apply pw_below_drewN | apply below_drew1) | exact HB.out)) hb); clear HB; have HB := n0_; clear n0_; (try clear hb); (try clear hb2); (try clear hk); (try clear hi)))
                            go_ret
                            exact ⟨by first | rfl | (simp [errW_none, errW_some] <;> rfl) | (simp [*, errW_none, errW_some] <;> rfl), by repeat (first | (with_reducible first | exact HB.out | apply below_alloc | apply pw_below_drewN | apply below_drew1) | exact HB.out)⟩
                        · rw [if_neg c22] at H
                          exact absurd H (by simp)
                      · rw [if_neg c21] at H
                        have c21b0 : (t389 == 1) = false := beq_eq_false_iff_ne.mpr c21
                        have c21b1 : (t389 != 1) = true := bne_iff_ne.mpr c21
                        obtain rfl := Option.some.inj H
                        go_wp2_with (first | ((with_reducible refine gate_callee (f := 15) rfl ?_); refine goesL_ (some 40) rfl rfl Tryd.func15 (by kernel_rfl) rfl #[.string y388, .string t386] rfl (by (try simp only [List.map_toArray, List.map_cons, List.map_nil]); first | done | rfl | (simp only [List.length_drop, List.length_take]; rfl)) ?_; (with_reducible refine (ver_Compare.calls kj15 y388 t386 t389 _ A20.out).mono ?_); rintro e w31 ⟨rfl, hb⟩; refine ⟨_, rfl, ?_⟩; have n0_ := Aside0.mk (below_step (by repeat (first | (with_reducible first | exact HB.out | apply below_alloc | apply pw_below_drewN | apply below_drew1) | exact HB.out)) hb); clear HB; have HB := n0_; clear n0_; (try clear hb); (try clear hb2); (try clear hk); (try clear hi)))
                        go_ret
                        exact ⟨by first | rfl | (simp [errW_none, errW_some] <;> rfl) | (simp [*, errW_none, errW_some] <;> rfl), by repeat (first | (with_reducible first | exact HB.out | apply below_alloc | apply pw_below_drewN | apply below_drew1) | exact HB.out)⟩
                    · rw [if_neg c19] at H
                      exact absurd H (by simp)
                  · replace c18 := Bool.eq_false_iff.mpr c18
                    subst c18
                    have H1 : ((ver_Compare.f kj15 x9_1 t386).bind fun t395 => (if t395 = x12_15 then (if 2 + x9_1.size ≤ 9223372036854775807 then ((some ((⟨#[49, 46]⟩ : ByteArray) ++ x9_1 : ByteArray)).bind fun y396 => (if 2 + t386.size ≤ 9223372036854775807 then ((ver_Compare.f kj15 y396 ((⟨#[49, 46]⟩ : ByteArray) ++ t386)).bind fun t398 => (if t398 = x12_15 then ((ver_Compare.f kj15 ((⟨#[49, 45]⟩ : ByteArray) ++ x9_1) ((⟨#[49, 45]⟩ : ByteArray) ++ t386)).bind fun t401 => (if t401 = x12_15 then ((ver_Compare.f kj15 ((⟨#[49, 126]⟩ : ByteArray) ++ x9_1) (⟨#[49]⟩ : ByteArray)).bind fun t403 => (if t403 = (-1) then ((ver_Compare.f kj15 y396 (⟨#[49]⟩ : ByteArray)).bind fun t404 => (some (t404 == 1))) else (some false))) else (some false))) else (some false))) else (none))) else (none)) else (some false))) = some r := by rw [if_neg (show ¬ (false = true) by decide)] at H; exact H
                    clear H
                    have H := H1
                    clear H1
                    replace H := Option.bind_eq_some_iff.mp H
                    obtain ⟨t395, A320, H⟩ := H
                    replace H : (if t395 = x12_15 then (if 2 + x9_1.size ≤ 9223372036854775807 then ((some ((⟨#[49, 46]⟩ : ByteArray) ++ x9_1 : ByteArray)).bind fun y396 => (if 2 + t386.size ≤ 9223372036854775807 then ((ver_Compare.f kj15 y396 ((⟨#[49, 46]⟩ : ByteArray) ++ t386)).bind fun t398 => (if t398 = x12_15 then ((ver_Compare.f kj15 ((⟨#[49, 45]⟩ : ByteArray) ++ x9_1) ((⟨#[49, 45]⟩ : ByteArray) ++ t386)).bind fun t401 => (if t401 = x12_15 then ((ver_Compare.f kj15 ((⟨#[49, 126]⟩ : ByteArray) ++ x9_1) (⟨#[49]⟩ : ByteArray)).bind fun t403 => (if t403 = (-1) then ((ver_Compare.f kj15 y396 (⟨#[49]⟩ : ByteArray)).bind fun t404 => (some (t404 == 1))) else (some false))) else (some false))) else (some false))) else (none))) else (none)) else (some false)) = some r := H
                    have A32 := Aside0.mk A320
                    clear A320
                    by_cases c33 : t395 = x12_15
                    · rw [if_pos c33] at H
                      have c33b0 : (t395 == x12_15) = true := beq_iff_eq.mpr c33
                      have c33b1 : (t395 != x12_15) = false := bne_eq_false_iff_eq.mpr c33
                      clear c33
                      by_cases c34 : 2 + x9_1.size ≤ 9223372036854775807
                      · rw [if_pos c34] at H
                        have c34b0 := eq_true c34
                        have c34b1 : decide (2 + x9_1.size ≤ 9223372036854775807) = true := decide_eq_true c34
                        try have c34b2 : (9223372036854775807 < 2 + x9_1.size) = False := eq_false (Nat.not_lt.2 c34)
                        obtain ⟨y396, hy396⟩ : ∃ y_ : ByteArray, y_ = ((⟨#[49, 46]⟩ : ByteArray) ++ x9_1) := ⟨_, rfl⟩
                        replace H : (if 2 + t386.size ≤ 9223372036854775807 then ((ver_Compare.f kj15 y396 ((⟨#[49, 46]⟩ : ByteArray) ++ t386)).bind fun t398 => (if t398 = x12_15 then ((ver_Compare.f kj15 ((⟨#[49, 45]⟩ : ByteArray) ++ x9_1) ((⟨#[49, 45]⟩ : ByteArray) ++ t386)).bind fun t401 => (if t401 = x12_15 then ((ver_Compare.f kj15 ((⟨#[49, 126]⟩ : ByteArray) ++ x9_1) (⟨#[49]⟩ : ByteArray)).bind fun t403 => (if t403 = (-1) then ((ver_Compare.f kj15 y396 (⟨#[49]⟩ : ByteArray)).bind fun t404 => (some (t404 == 1))) else (some false))) else (some false))) else (some false))) else (none)) = some r := by first | (rw [hy396]; with_reducible exact H) | (have H2_ := (Option.bind_some _ _).symm.trans H; rw [hy396]; with_reducible exact H2_) | (have H2_ := (Option.bind_some _ _).symm.trans H; with_reducible exact H2_) | with_reducible exact H | (rw [hy396]; exact H) | exact H
                        have Ny396 := Aside0.mk hy396
                        clear hy396
                        have Ey396 : (⟨#[49, 46]⟩ : ByteArray) ++ x9_1 = y396 := Ny396.out.symm
                        by_cases c35 : 2 + t386.size ≤ 9223372036854775807
                        · rw [if_pos c35] at H
                          have c35b0 := eq_true c35
                          have c35b1 : decide (2 + t386.size ≤ 9223372036854775807) = true := decide_eq_true c35
                          try have c35b2 : (9223372036854775807 < 2 + t386.size) = False := eq_false (Nat.not_lt.2 c35)
                          obtain ⟨y397, hy397⟩ : ∃ y_ : ByteArray, y_ = ((⟨#[49, 46]⟩ : ByteArray) ++ t386) := ⟨_, rfl⟩
                          replace H : ((ver_Compare.f kj15 y396 y397).bind fun t398 => (if t398 = x12_15 then ((ver_Compare.f kj15 ((⟨#[49, 45]⟩ : ByteArray) ++ x9_1) ((⟨#[49, 45]⟩ : ByteArray) ++ t386)).bind fun t401 => (if t401 = x12_15 then ((ver_Compare.f kj15 ((⟨#[49, 126]⟩ : ByteArray) ++ x9_1) (⟨#[49]⟩ : ByteArray)).bind fun t403 => (if t403 = (-1) then ((ver_Compare.f kj15 y396 (⟨#[49]⟩ : ByteArray)).bind fun t404 => (some (t404 == 1))) else (some false))) else (some false))) else (some false))) = some r := by first | (rw [hy397]; with_reducible exact H) | (have H2_ := (Option.bind_some _ _).symm.trans H; rw [hy397]; with_reducible exact H2_) | (have H2_ := (Option.bind_some _ _).symm.trans H; with_reducible exact H2_) | with_reducible exact H | (rw [hy397]; exact H) | exact H
                          have Ny397 := Aside0.mk hy397
                          clear hy397
                          have Ey397 : (⟨#[49, 46]⟩ : ByteArray) ++ t386 = y397 := Ny397.out.symm
                          replace H := Option.bind_eq_some_iff.mp H
                          obtain ⟨t398, A360, H⟩ := H
                          replace H : (if t398 = x12_15 then ((ver_Compare.f kj15 ((⟨#[49, 45]⟩ : ByteArray) ++ x9_1) ((⟨#[49, 45]⟩ : ByteArray) ++ t386)).bind fun t401 => (if t401 = x12_15 then ((ver_Compare.f kj15 ((⟨#[49, 126]⟩ : ByteArray) ++ x9_1) (⟨#[49]⟩ : ByteArray)).bind fun t403 => (if t403 = (-1) then ((ver_Compare.f kj15 y396 (⟨#[49]⟩ : ByteArray)).bind fun t404 => (some (t404 == 1))) else (some false))) else (some false))) else (some false)) = some r := H
                          have A36 := Aside0.mk A360
                          clear A360
                          by_cases c37 : t398 = x12_15
                          · rw [if_pos c37] at H
                            have c37b0 : (t398 == x12_15) = true := beq_iff_eq.mpr c37
                            have c37b1 : (t398 != x12_15) = false := bne_eq_false_iff_eq.mpr c37
                            clear c37
                            obtain ⟨y399, hy399⟩ : ∃ y_ : ByteArray, y_ = ((⟨#[49, 45]⟩ : ByteArray) ++ x9_1) := ⟨_, rfl⟩
                            replace H : ((ver_Compare.f kj15 y399 ((⟨#[49, 45]⟩ : ByteArray) ++ t386)).bind fun t401 => (if t401 = x12_15 then ((ver_Compare.f kj15 ((⟨#[49, 126]⟩ : ByteArray) ++ x9_1) (⟨#[49]⟩ : ByteArray)).bind fun t403 => (if t403 = (-1) then ((ver_Compare.f kj15 y396 (⟨#[49]⟩ : ByteArray)).bind fun t404 => (some (t404 == 1))) else (some false))) else (some false))) = some r := by first | (rw [hy399]; with_reducible exact H) | (have H2_ := (Option.bind_some _ _).symm.trans H; rw [hy399]; with_reducible exact H2_) | (have H2_ := (Option.bind_some _ _).symm.trans H; with_reducible exact H2_) | with_reducible exact H | (rw [hy399]; exact H) | exact H
                            have Ny399 := Aside0.mk hy399
                            clear hy399
                            have Ey399 : (⟨#[49, 45]⟩ : ByteArray) ++ x9_1 = y399 := Ny399.out.symm
                            obtain ⟨y400, hy400⟩ : ∃ y_ : ByteArray, y_ = ((⟨#[49, 45]⟩ : ByteArray) ++ t386) := ⟨_, rfl⟩
                            replace H : ((ver_Compare.f kj15 y399 y400).bind fun t401 => (if t401 = x12_15 then ((ver_Compare.f kj15 ((⟨#[49, 126]⟩ : ByteArray) ++ x9_1) (⟨#[49]⟩ : ByteArray)).bind fun t403 => (if t403 = (-1) then ((ver_Compare.f kj15 y396 (⟨#[49]⟩ : ByteArray)).bind fun t404 => (some (t404 == 1))) else (some false))) else (some false))) = some r := by first | (rw [hy400]; with_reducible exact H) | (have H2_ := (Option.bind_some _ _).symm.trans H; rw [hy400]; with_reducible exact H2_) | (have H2_ := (Option.bind_some _ _).symm.trans H; with_reducible exact H2_) | with_reducible exact H | (rw [hy400]; exact H) | exact H
                            have Ny400 := Aside0.mk hy400
                            clear hy400
                            have Ey400 : (⟨#[49, 45]⟩ : ByteArray) ++ t386 = y400 := Ny400.out.symm
                            replace H := Option.bind_eq_some_iff.mp H
                            obtain ⟨t401, A380, H⟩ := H
                            replace H : (if t401 = x12_15 then ((ver_Compare.f kj15 ((⟨#[49, 126]⟩ : ByteArray) ++ x9_1) (⟨#[49]⟩ : ByteArray)).bind fun t403 => (if t403 = (-1) then ((ver_Compare.f kj15 y396 (⟨#[49]⟩ : ByteArray)).bind fun t404 => (some (t404 == 1))) else (some false))) else (some false)) = some r := H
                            have A38 := Aside0.mk A380
                            clear A380
                            by_cases c39 : t401 = x12_15
                            · rw [if_pos c39] at H
                              have c39b0 : (t401 == x12_15) = true := beq_iff_eq.mpr c39
                              have c39b1 : (t401 != x12_15) = false := bne_eq_false_iff_eq.mpr c39
                              clear c39
                              obtain ⟨y402, hy402⟩ : ∃ y_ : ByteArray, y_ = ((⟨#[49, 126]⟩ : ByteArray) ++ x9_1) := ⟨_, rfl⟩
                              replace H : ((ver_Compare.f kj15 y402 (⟨#[49]⟩ : ByteArray)).bind fun t403 => (if t403 = (-1) then ((ver_Compare.f kj15 y396 (⟨#[49]⟩ : ByteArray)).bind fun t404 => (some (t404 == 1))) else (some false))) = some r := by first | (rw [hy402]; with_reducible exact H) | (have H2_ := (Option.bind_some _ _).symm.trans H; rw [hy402]; with_reducible exact H2_) | (have H2_ := (Option.bind_some _ _).symm.trans H; with_reducible exact H2_) | with_reducible exact H | (rw [hy402]; exact H) | exact H
                              have Ny402 := Aside0.mk hy402
                              clear hy402
                              have Ey402 : (⟨#[49, 126]⟩ : ByteArray) ++ x9_1 = y402 := Ny402.out.symm
                              replace H := Option.bind_eq_some_iff.mp H
                              obtain ⟨t403, A400, H⟩ := H
                              replace H : (if t403 = (-1) then ((ver_Compare.f kj15 y396 (⟨#[49]⟩ : ByteArray)).bind fun t404 => (some (t404 == 1))) else (some false)) = some r := H
                              have A40 := Aside0.mk A400
                              clear A400
                              by_cases c41 : t403 = (-1)
                              · rw [if_pos c41] at H
                                have c41b0 : (t403 == (-1)) = true := beq_iff_eq.mpr c41
                                have c41b1 : (t403 != (-1)) = false := bne_eq_false_iff_eq.mpr c41
                                clear c41
                                replace H := Option.bind_eq_some_iff.mp H
                                obtain ⟨t404, A420, H⟩ := H
                                replace H : (some (t404 == 1)) = some r := H
                                have A42 := Aside0.mk A420
                                clear A420
                                obtain rfl := Option.some.inj H
                                go_wp2_with (first | ((with_reducible refine gate_callee (f := 15) rfl ?_); refine goesL_ (some 60) rfl rfl Tryd.func15 (by kernel_rfl) rfl #[.string x9_1, .string t386] rfl (by (try simp only [List.map_toArray, List.map_cons, List.map_nil]); first | done | rfl | (simp only [List.length_drop, List.length_take]; rfl)) ?_; (with_reducible refine (ver_Compare.calls kj15 x9_1 t386 t395 _ A32.out).mono ?_); rintro e w43 ⟨rfl, hb⟩; refine ⟨_, rfl, ?_⟩; have n0_ := Aside0.mk (below_step (by repeat (first | (with_reducible first | exact HB.out | apply below_alloc | apply pw_below_drewN | apply below_drew1) | exact HB.out)) hb); clear HB; have HB := n0_; clear n0_; (try clear hb); (try clear hb2); (try clear hk); (try clear hi)) | (go_at_call 15; (with_reducible refine (ver_Compare.calls kj15 y396 y397 t398 _ A36.out).mono ?_); rintro e w44 ⟨rfl, hb⟩; have n0_ := Aside0.mk (below_step (by repeat (first | (with_reducible first | exact HB.out | apply below_alloc | apply pw_below_drewN | apply below_drew1) | exact HB.out)) hb); clear HB; have HB := n0_; clear n0_; (try clear hb); (try clear hb2); (try clear hk); (try clear hi)) | (go_at_call 15; (with_reducible refine (ver_Compare.calls kj15 y399 y400 t401 _ A38.out).mono ?_); rintro e w45 ⟨rfl, hb⟩; have n0_ := Aside0.mk (below_step (by repeat (first | (with_reducible first | exact HB.out | apply below_alloc | apply pw_below_drewN | apply below_drew1) | exact HB.out)) hb); clear HB; have HB := n0_; clear n0_; (try clear hb); (try clear hb2); (try clear hk); (try clear hi)) | (go_at_call 15; (with_reducible refine (ver_Compare.calls kj15 y402 (⟨#[49]⟩ : ByteArray) t403 _ A40.out).mono ?_); rintro e w46 ⟨rfl, hb⟩; have n0_ := Aside0.mk (below_step (by repeat (first | (with_reducible first | exact HB.out | apply below_alloc | apply pw_below_drewN | apply below_drew1) | exact HB.out)) hb); clear HB; have HB := n0_; clear n0_; (try clear hb); (try clear hb2); (try clear hk); (try clear hi)) | (go_at_call 15; (with_reducible refine (ver_Compare.calls kj15 y396 (⟨#[49]⟩ : ByteArray) t404 _ A42.out).mono ?_); rintro e w47 ⟨rfl, hb⟩; have n0_ := Aside0.mk (below_step (by repeat (first | (with_reducible first | exact HB.out | apply below_alloc | apply pw_below_drewN | apply below_drew1) | exact HB.out)) hb); clear HB; have HB := n0_; clear n0_; (try clear hb); (try clear hb2); (try clear hk); (try clear hi)))
                                go_ret
                                exact ⟨by first | rfl | (simp [errW_none, errW_some] <;> rfl) | (simp [*, errW_none, errW_some] <;> rfl), by repeat (first | (with_reducible first | exact HB.out | apply below_alloc | apply pw_below_drewN | apply below_drew1) | exact HB.out)⟩
                              · rw [if_neg c41] at H
                                have c41b0 : (t403 == (-1)) = false := beq_eq_false_iff_ne.mpr c41
                                have c41b1 : (t403 != (-1)) = true := bne_iff_ne.mpr c41
                                obtain rfl := Option.some.inj H
                                go_wp2_with (first | ((with_reducible refine gate_callee (f := 15) rfl ?_); refine goesL_ (some 60) rfl rfl Tryd.func15 (by kernel_rfl) rfl #[.string x9_1, .string t386] rfl (by (try simp only [List.map_toArray, List.map_cons, List.map_nil]); first | done | rfl | (simp only [List.length_drop, List.length_take]; rfl)) ?_; (with_reducible refine (ver_Compare.calls kj15 x9_1 t386 t395 _ A32.out).mono ?_); rintro e w48 ⟨rfl, hb⟩; refine ⟨_, rfl, ?_⟩; have n0_ := Aside0.mk (below_step (by repeat (first | (with_reducible first | exact HB.out | apply below_alloc | apply pw_below_drewN | apply below_drew1) | exact HB.out)) hb); clear HB; have HB := n0_; clear n0_; (try clear hb); (try clear hb2); (try clear hk); (try clear hi)) | (go_at_call 15; (with_reducible refine (ver_Compare.calls kj15 y396 y397 t398 _ A36.out).mono ?_); rintro e w49 ⟨rfl, hb⟩; have n0_ := Aside0.mk (below_step (by repeat (first | (with_reducible first | exact HB.out | apply below_alloc | apply pw_below_drewN | apply below_drew1) | exact HB.out)) hb); clear HB; have HB := n0_; clear n0_; (try clear hb); (try clear hb2); (try clear hk); (try clear hi)) | (go_at_call 15; (with_reducible refine (ver_Compare.calls kj15 y399 y400 t401 _ A38.out).mono ?_); rintro e w50 ⟨rfl, hb⟩; have n0_ := Aside0.mk (below_step (by repeat (first | (with_reducible first | exact HB.out | apply below_alloc | apply pw_below_drewN | apply below_drew1) | exact HB.out)) hb); clear HB; have HB := n0_; clear n0_; (try clear hb); (try clear hb2); (try clear hk); (try clear hi)) | (go_at_call 15; (with_reducible refine (ver_Compare.calls kj15 y402 (⟨#[49]⟩ : ByteArray) t403 _ A40.out).mono ?_); rintro e w51 ⟨rfl, hb⟩; have n0_ := Aside0.mk (below_step (by repeat (first | (with_reducible first | exact HB.out | apply below_alloc | apply pw_below_drewN | apply below_drew1) | exact HB.out)) hb); clear HB; have HB := n0_; clear n0_; (try clear hb); (try clear hb2); (try clear hk); (try clear hi)))
                                go_ret
                                exact ⟨by first | rfl | (simp [errW_none, errW_some] <;> rfl) | (simp [*, errW_none, errW_some] <;> rfl), by repeat (first | (with_reducible first | exact HB.out | apply below_alloc | apply pw_below_drewN | apply below_drew1) | exact HB.out)⟩
                            · rw [if_neg c39] at H
                              have c39b0 : (t401 == x12_15) = false := beq_eq_false_iff_ne.mpr c39
                              have c39b1 : (t401 != x12_15) = true := bne_iff_ne.mpr c39
                              obtain rfl := Option.some.inj H
                              go_wp2_with (first | ((with_reducible refine gate_callee (f := 15) rfl ?_); refine goesL_ (some 60) rfl rfl Tryd.func15 (by kernel_rfl) rfl #[.string x9_1, .string t386] rfl (by (try simp only [List.map_toArray, List.map_cons, List.map_nil]); first | done | rfl | (simp only [List.length_drop, List.length_take]; rfl)) ?_; (with_reducible refine (ver_Compare.calls kj15 x9_1 t386 t395 _ A32.out).mono ?_); rintro e w52 ⟨rfl, hb⟩; refine ⟨_, rfl, ?_⟩; have n0_ := Aside0.mk (below_step (by repeat (first | (with_reducible first | exact HB.out | apply below_alloc | apply pw_below_drewN | apply below_drew1) | exact HB.out)) hb); clear HB; have HB := n0_; clear n0_; (try clear hb); (try clear hb2); (try clear hk); (try clear hi)) | (go_at_call 15; (with_reducible refine (ver_Compare.calls kj15 y396 y397 t398 _ A36.out).mono ?_); rintro e w53 ⟨rfl, hb⟩; have n0_ := Aside0.mk (below_step (by repeat (first | (with_reducible first | exact HB.out | apply below_alloc | apply pw_below_drewN | apply below_drew1) | exact HB.out)) hb); clear HB; have HB := n0_; clear n0_; (try clear hb); (try clear hb2); (try clear hk); (try clear hi)) | (go_at_call 15; (with_reducible refine (ver_Compare.calls kj15 y399 y400 t401 _ A38.out).mono ?_); rintro e w54 ⟨rfl, hb⟩; have n0_ := Aside0.mk (below_step (by repeat (first | (with_reducible first | exact HB.out | apply below_alloc | apply pw_below_drewN | apply below_drew1) | exact HB.out)) hb); clear HB; have HB := n0_; clear n0_; (try clear hb); (try clear hb2); (try clear hk); (try clear hi)))
                              go_ret
                              exact ⟨by first | rfl | (simp [errW_none, errW_some] <;> rfl) | (simp [*, errW_none, errW_some] <;> rfl), by repeat (first | (with_reducible first | exact HB.out | apply below_alloc | apply pw_below_drewN | apply below_drew1) | exact HB.out)⟩
                          · rw [if_neg c37] at H
                            have c37b0 : (t398 == x12_15) = false := beq_eq_false_iff_ne.mpr c37
                            have c37b1 : (t398 != x12_15) = true := bne_iff_ne.mpr c37
                            obtain rfl := Option.some.inj H
                            go_wp2_with (first | ((with_reducible refine gate_callee (f := 15) rfl ?_); refine goesL_ (some 60) rfl rfl Tryd.func15 (by kernel_rfl) rfl #[.string x9_1, .string t386] rfl (by (try simp only [List.map_toArray, List.map_cons, List.map_nil]); first | done | rfl | (simp only [List.length_drop, List.length_take]; rfl)) ?_; (with_reducible refine (ver_Compare.calls kj15 x9_1 t386 t395 _ A32.out).mono ?_); rintro e w55 ⟨rfl, hb⟩; refine ⟨_, rfl, ?_⟩; have n0_ := Aside0.mk (below_step (by repeat (first | (with_reducible first | exact HB.out | apply below_alloc | apply pw_below_drewN | apply below_drew1) | exact HB.out)) hb); clear HB; have HB := n0_; clear n0_; (try clear hb); (try clear hb2); (try clear hk); (try clear hi)) | (go_at_call 15; (with_reducible refine (ver_Compare.calls kj15 y396 y397 t398 _ A36.out).mono ?_); rintro e w56 ⟨rfl, hb⟩; have n0_ := Aside0.mk (below_step (by repeat (first | (with_reducible first | exact HB.out | apply below_alloc | apply pw_below_drewN | apply below_drew1) | exact HB.out)) hb); clear HB; have HB := n0_; clear n0_; (try clear hb); (try clear hb2); (try clear hk); (try clear hi)))
                            go_ret
                            exact ⟨by first | rfl | (simp [errW_none, errW_some] <;> rfl) | (simp [*, errW_none, errW_some] <;> rfl), by repeat (first | (with_reducible first | exact HB.out | apply below_alloc | apply pw_below_drewN | apply below_drew1) | exact HB.out)⟩
                        · rw [if_neg c35] at H
                          exact absurd H (by simp)
                      · rw [if_neg c34] at H
                        exact absurd H (by simp)
                    · rw [if_neg c33] at H
                      have c33b0 : (t395 == x12_15) = false := beq_eq_false_iff_ne.mpr c33
                      have c33b1 : (t395 != x12_15) = true := bne_iff_ne.mpr c33
                      obtain rfl := Option.some.inj H
                      go_wp2_with (first | ((with_reducible refine gate_callee (f := 15) rfl ?_); refine goesL_ (some 60) rfl rfl Tryd.func15 (by kernel_rfl) rfl #[.string x9_1, .string t386] rfl (by (try simp only [List.map_toArray, List.map_cons, List.map_nil]); first | done | rfl | (simp only [List.length_drop, List.length_take]; rfl)) ?_; (with_reducible refine (ver_Compare.calls kj15 x9_1 t386 t395 _ A32.out).mono ?_); rintro e w57 ⟨rfl, hb⟩; refine ⟨_, rfl, ?_⟩; have n0_ := Aside0.mk (below_step (by repeat (first | (with_reducible first | exact HB.out | apply below_alloc | apply pw_below_drewN | apply below_drew1) | exact HB.out)) hb); clear HB; have HB := n0_; clear n0_; (try clear hb); (try clear hb2); (try clear hk); (try clear hi)))
                      go_ret
                      exact ⟨by first | rfl | (simp [errW_none, errW_some] <;> rfl) | (simp [*, errW_none, errW_some] <;> rfl), by repeat (first | (with_reducible first | exact HB.out | apply below_alloc | apply pw_below_drewN | apply below_drew1) | exact HB.out)⟩
  · replace c6 := Bool.eq_false_iff.mpr c6
    subst c6
    have H1 : (some false) = some r := by rw [if_neg (show ¬ (false = true) by decide)] at H; exact H
    clear H
    have H := H1
    clear H1
    obtain rfl := Option.some.inj H
    go_enter Tryd.func6, Tryd.ntmps6
    go_wp2_with (first | ((with_reducible refine gate_callee (f := 8) rfl ?_); refine goesL_ (some 13) rfl rfl Tryd.func8 (by kernel_rfl) rfl #[] rfl (by (try simp only [List.map_toArray, List.map_cons, List.map_nil]); first | done | rfl | (simp only [List.length_drop, List.length_take]; rfl)) ?_; (with_reducible refine (manciplelaw1_known.calls k  false _ A5.out).mono ?_); rintro e w58 ⟨rfl, hb⟩; refine ⟨_, rfl, ?_⟩; have n0_ := Aside0.mk (below_step (by repeat (first | (with_reducible first | exact HB.out | apply below_alloc | apply pw_below_drewN | apply below_drew1) | exact HB.out)) hb); clear HB; have HB := n0_; clear n0_; (try clear hb); (try clear hb2); (try clear hk); (try clear hi)))
    go_ret
    exact ⟨by first | rfl | (simp [errW_none, errW_some] <;> rfl) | (simp [*, errW_none, errW_some] <;> rfl), by repeat (first | (with_reducible first | exact HB.out | apply below_alloc | apply pw_below_drewN | apply below_drew1) | exact HB.out)⟩

/-- THE ONE PURE STATEMENT of manciplelaw1_VerNumbers: yours. -/
def manciplelaw1_VerNumbers.Pure : Prop := ∀ (a0 : Int) (a1 : Int) (a2 : Int) (a3 : Bool), (Lit.int .u32 a0).wf = true → (Lit.int .u32 a1).wf = true → (Lit.int .u8 a2).wf = true → ∃ k, manciplelaw1_VerNumbers.f k a0 a1 a2 a3 = some true
theorem manciplelaw1_VerNumbers.walk (P : manciplelaw1_VerNumbers.Pure) (a0 : Int) (a1 : Int) (a2 : Int) (a3 : Bool) (w : World) (w0 : (Lit.int .u32 a0).wf = true) (w1 : (Lit.int .u32 a1).wf = true) (w2 : (Lit.int .u8 a2).wf = true) :
    Calls Tryd.prog 6 #[.int .u32 a0, .int .u32 a1, .int .u8 a2, .bool a3] w fun e w' => e = .returned (.bool true) ∧ Below w.heap.size w w' := by
  obtain ⟨k, h⟩ := P a0 a1 a2 a3 w0 w1 w2
  refine (manciplelaw1_VerNumbers.calls k a0 a1 a2 a3 true w h).mono ?_
  rintro e w' ⟨rfl, hd⟩
  exact ⟨rfl, hd⟩
end Go.Proofs.YtpijehmhgjkkoaaDoor.Q
