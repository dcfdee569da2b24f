/- Printed by a program of this repo, over the kit's print, for this claim; hand-made contracts stand among it. Plain theorems, Lean checks them. -/
import Derived.Test.YtmgeokfknehonaaDoorAStanzaLines2
namespace Go.Proofs.YtmgeokfknehonaaDoor.Q
open Go.RowKit Go.Proofs.YtmgeokfknehonaaDoorW.PrintWords Go.Proofs.YtmgeokfknehonaaDoorW.PrintLast Go.Proofs.YtmgeokfknehonaaDoorW.PrintMore
attribute [local go_sem] max2_int min2_int max_two min_two max_three min_three max_four min_four   -- for this text's walks alone
set_option linter.unusedVariables false
set_option linter.unusedSimpArgs false
/-! ### mancipleref9_ParseStanzas: function 9 -/
def mancipleref9_ParseStanzas.l0 : Nat → List ByteArray → List (List (S46)) → List (S46) → Int → Option ((List (List (S46))) × Int × Int)
  | 0, _, _, _, _ => none
  | k + 1, x5, x7, x8, x9 => if x9 < (x5.length : Int) then (if 0 ≤ x9 then (if (rdOf ByteArray.empty x5 x9).toList = ([] : List UInt8) then (if (x8.length : Int) = 0 then (some (([] : List (List (S46))), x9, 2)) else (if x9 = (wrap64 ((x5.length : Int) - 1)) then (some (([] : List (List (S46))), x9, 2)) else (if x7.length < 5864062014805 then (mancipleref9_ParseStanzas.l0 k x5 (x7 ++ [x8]) ([] : List (S46)) (wrap64 (x9 + 1))) else (none)))) else ((mancipleref9_field.f k (rdOf ByteArray.empty x5 x9)).bind fun bt285 => (if bt285.2.2.2 = true then ((mancipleref9_Get.f k x8 bt285.1).bind fun bt290 => (if bt290.2.2.2 = true then (some (([] : List (List (S46))), x9, 6)) else (if x8.length < 3518437208883 then (mancipleref9_ParseStanzas.l0 k x5 x7 (x8 ++ [(⟨bt285.1, bt285.2.1, x9⟩ : S46)]) (wrap64 (x9 + 1))) else (none)))) else (some (([] : List (List (S46))), x9, 2))))) else (none)) else (if (x8.length : Int) > 0 then (if x7.length < 5864062014805 then (some ((x7 ++ [x8]), 0, 0)) else (none)) else (some (x7, 0, 0)))
def mancipleref9_ParseStanzas.f (k : Nat) (a0 : ByteArray) : Option ((List (List (S46))) × Int × Int) := if (a0.size : Int) > 65536 then (some (([] : List (List (S46))), 0, 4)) else ((mancipleref9_Rows.f k a0).bind fun bt273 => (if bt273.2 = true then (mancipleref9_ParseStanzas.l0 k bt273.1 ([] : List (List (S46))) ([] : List (S46)) 0) else (some (([] : List (List (S46))), 0, 2))))
theorem mancipleref9_ParseStanzas.mono_l : ∀ k, (∀ y0 y1 y2 y3, LeO (mancipleref9_ParseStanzas.l0 k y0 y1 y2 y3) (mancipleref9_ParseStanzas.l0 (k + 1) y0 y1 y2 y3))
  | 0 => fun _ _ _ _ r h => by simp [mancipleref9_ParseStanzas.l0] at h
  | k + 1 => by
    have ih0 := mancipleref9_ParseStanzas.mono_l k
    · intro y0 y1 y2 y3
      unfold mancipleref9_ParseStanzas.l0
      repeat' first
      | (with_reducible exact ih0 _ _ _ _)
      | (with_reducible exact mancipleref9_Get.mono _ _ _)
      | (with_reducible exact mancipleref9_Rows.mono _ _)
      | (with_reducible exact mancipleref9_field.mono _ _)
      | (with_reducible exact LeO.refl _)
      | (with_reducible exact LeO.none _)
      | (with_reducible refine LeO.ite ?_ ?_)
      | (with_reducible refine LeO.bind ?_ (fun _ => ?_))
      | exact ih0 _ _ _ _
      | exact mancipleref9_Get.mono _ _ _
      | exact mancipleref9_Rows.mono _ _
      | exact mancipleref9_field.mono _ _
      | exact LeO.none _
      | refine LeO.ite ?_ ?_
      | refine LeO.bind ?_ (fun _ => ?_)
theorem mancipleref9_ParseStanzas.mono : ∀ a0 k, LeO (mancipleref9_ParseStanzas.f k a0) (mancipleref9_ParseStanzas.f (k + 1) a0) := by
  intro a0 k
  have ih0 := mancipleref9_ParseStanzas.mono_l k
  unfold mancipleref9_ParseStanzas.f
  repeat' first
      | (with_reducible exact ih0 _ _ _ _)
      | (with_reducible exact mancipleref9_Get.mono _ _ _)
      | (with_reducible exact mancipleref9_Rows.mono _ _)
      | (with_reducible exact mancipleref9_field.mono _ _)
      | (with_reducible exact LeO.refl _)
      | (with_reducible exact LeO.none _)
      | (with_reducible refine LeO.ite ?_ ?_)
      | (with_reducible refine LeO.bind ?_ (fun _ => ?_))
      | exact ih0 _ _ _ _
      | exact mancipleref9_Get.mono _ _ _
      | exact mancipleref9_Rows.mono _ _
      | exact mancipleref9_field.mono _ _
      | exact LeO.none _
      | refine LeO.ite ?_ ?_
      | refine LeO.bind ?_ (fun _ => ?_)
set_option maxHeartbeats 8000000 in
set_option maxRecDepth 100000 in
theorem mancipleref9_ParseStanzas.calls (k : Nat) (a0 : ByteArray) (r1 : List (List (S46))) (r2 : Int) (r3 : Int) (w : World) (h : mancipleref9_ParseStanzas.f k a0 = some (r1, r2, r3)) :
    Calls Tryd.prog 9 #[.string a0] w fun e w' => ∃ v0_ : Value, e = .returned (.tuple #[v0_, .int .i64 r2, .int .i64 r3]) ∧ Kd.S (Kd.slice 46 k46) 33 w' w.heap.size (fun _ => True) v0_ r1 ∧ Below w.heap.size w w' := by
  have hu46 := Tryd.underlying46
  have HB := Aside0.mk (Below.refl w.heap.size w)
  have H : (if (a0.size : Int) > 65536 then (some (([] : List (List (S46))), 0, 4)) else ((mancipleref9_Rows.f k a0).bind fun bt273 => (if bt273.2 = true then (mancipleref9_ParseStanzas.l0 k bt273.1 ([] : List (List (S46))) ([] : List (S46)) 0) else (some (([] : List (List (S46))), 0, 2))))) = some (r1, r2, r3) := h
  clear h
  by_cases c2 : (a0.size : Int) > 65536
  · rw [if_pos c2] at H
    have c2b0 : decide (65536 < (a0.size : Int)) = true := decide_eq_true c2
    have c2b1 : decide (65536 < a0.size) = true := decide_eq_true (by omega)
    clear c2
    simp only [Option.some.injEq, Prod.mk.injEq] at H
    obtain ⟨rfl, rfl, rfl⟩ := H
    go_enter Tryd.func9, Tryd.ntmps9
    go_wp2
    go_ret3
    exact ⟨_, by first | rfl | (simp [errW_none, errW_some] <;> rfl) | (simp [*, errW_none, errW_some] <;> rfl), by first | exact Kd.S_nil _ _ _ _ _ | exact Kd.N_nil _ _ _ _ _ | exact Kd.V_nil _ _ _ _ _ | exact Kd.Q_nil _ _ _ _ _ | exact Kd.R_nil _ _ _ _ _, by repeat (first | (with_reducible first | exact HB.out | apply below_alloc | apply pw_below_drewN | apply below_drew1) | exact HB.out)⟩
  · rw [if_neg c2] at H
    have c2b0 : decide (65536 < (a0.size : Int)) = false := decide_eq_false c2
    have c2b1 : decide (65536 < a0.size) = false := decide_eq_false (by omega)
    clear c2
    replace H := Option.bind_eq_some_iff.mp H
    obtain ⟨⟨t273, t274⟩, A30, H⟩ := H
    replace H : (if t274 = true then (mancipleref9_ParseStanzas.l0 k t273 ([] : List (List (S46))) ([] : List (S46)) 0) else (some (([] : List (List (S46))), 0, 2))) = some (r1, r2, r3) := H
    have A3 := Aside0.mk A30
    clear A30
    by_cases c4 : t274 = true
    · subst c4
      have H1 : (mancipleref9_ParseStanzas.l0 k t273 ([] : List (List (S46))) ([] : List (S46)) 0) = some (r1, r2, r3) := by rw [if_pos rfl] at H; exact H
      clear H
      have H := H1
      clear H1
      have H' := Aside0.mk H
      clear H
      go_enter Tryd.func9, Tryd.ntmps9
      go_wp2_with (first | ((with_reducible refine gate_callee (f := 24) rfl ?_); refine goesL_ (some 19) rfl rfl Tryd.func24 (by kernel_rfl) rfl #[.string a0] rfl (by (try simp only [List.map_toArray, List.map_cons, List.map_nil]); first | done | rfl | (simp only [List.length_drop, List.length_take]; rfl)) ?_; (with_reducible refine (mancipleref9_Rows.calls k a0 t273 true _ A3.out).mono ?_); rintro e w5 ⟨v275, rfl, ho0, hb⟩; refine ⟨_, rfl, ?_⟩; have n0_ := Aside0.mk (Kd.R_lower ho0 (below_size (by repeat (first | (with_reducible first | exact HB.out | apply below_alloc | apply pw_below_drewN | apply below_drew1) | exact HB.out)))); have n1_ := Aside0.mk (below_step (by repeat (first | (with_reducible first | exact HB.out | apply below_alloc | apply pw_below_drewN | apply below_drew1) | exact HB.out)) hb); clear HB; have HO276 := n0_; have HB := n1_; clear n0_ n1_; (try clear hb); (try clear hb2); (try clear hk); (try clear hi); (try clear ho0)))
      go_loopg [7, 8, 9] k (fun kq v7 v8 v9 w' => ∃ (x7_1 : List (List (S46))) (x8_1 : List (S46)) (x9_1 : Int), v9 = .int .i64 x9_1 ∧ Aside0 (mancipleref9_ParseStanzas.l0 kq t273 x7_1 x8_1 x9_1 = some (r1, r2, r3)) ∧ Aside0 (kq ≤ k) ∧ Aside0 (Kd.R Kd.string 9 w' w.heap.size (fun _ => True) v275 t273) ∧ Aside0 (Kd.S (Kd.slice 46 k46) 33 w' w.heap.size (fun k_ => some k_ ≠ (v8 : Value).ownBlock) v7 x7_1) ∧ Aside0 (Kd.R k46 46 w' w.heap.size (fun _ => True) v8 x8_1) ∧ Aside0 (Below w.heap.size w w'))
      case atStart => exact ⟨(([] : List (List (S46)))), (([] : List (S46))), (0), (by first | rfl | (simp; done) | (simp [*]; done)), H', ⟨Nat.le_refl _⟩, ⟨by (with_reducible repeat (first | apply Kd.R_alloc | apply Kd.R_drewN | apply Kd.R_drew)); exact HO276.out⟩, ⟨by first | exact Kd.S_nil _ _ _ _ _ | exact Kd.N_nil _ _ _ _ _ | exact Kd.V_nil _ _ _ _ _ | exact Kd.Q_nil _ _ _ _ _ | exact Kd.R_nil _ _ _ _ _⟩, ⟨by first | exact Kd.R_nil _ _ _ _ _ | exact Kd.N_nil _ _ _ _ _ | exact Kd.V_nil _ _ _ _ _ | exact Kd.Q_nil _ _ _ _ _ | exact Kd.S_nil _ _ _ _ _⟩, ⟨by repeat (first | (with_reducible first | exact HB.out | apply below_alloc | apply pw_below_drewN | apply below_drew1) | exact HB.out)⟩⟩
      case round =>
        clear H'
        try clear c2
        try clear c2b0
        try clear c2b1
        try clear p2
        try clear c4
        obtain ⟨x7_1, x8_1, x9_1, rfl, HA, HK1, HO_5, HO_7, HO_8, HB⟩ := hrel
        cases gk with
        | zero => exact absurd HA.out (by simp [mancipleref9_ParseStanzas.l0])
        | succ k1 =>
          have H := HA.out
          clear HA
          simp only [mancipleref9_ParseStanzas.l0] at H
          by_cases c6 : x9_1 < (t273.length : Int)
          · rw [if_pos c6] at H
            have c6b0 : decide (x9_1 < (t273.length : Int)) = true := decide_eq_true c6
            clear c6
            by_cases c7 : 0 ≤ x9_1
            · rw [if_pos c7] at H
              have c7b0 : decide (0 ≤ x9_1) = true := decide_eq_true c7
              clear c7
              by_cases c8 : (rdOf ByteArray.empty t273 x9_1).toList = ([] : List UInt8)
              · rw [if_pos c8] at H
                have c8b0 : ((rdOf ByteArray.empty t273 x9_1).toList == ([] : List UInt8)) = true := beq_iff_eq.mpr c8
                have c8b1 : ((rdOf ByteArray.empty t273 x9_1).toList != ([] : List UInt8)) = false := bne_eq_false_iff_eq.mpr c8
                have c8b2 : ((rdOf ByteArray.empty t273 x9_1).toList).isEmpty = true := List.isEmpty_iff.mpr c8
                clear c8
                by_cases c9 : (x8_1.length : Int) = 0
                · rw [if_pos c9] at H
                  have c9b0 : ((x8_1.length : Int) == 0) = true := beq_iff_eq.mpr c9
                  have c9b1 : ((x8_1.length : Int) != 0) = false := bne_eq_false_iff_eq.mpr c9
                  clear c9
                  simp only [Option.some.injEq, Prod.mk.injEq] at H
                  obtain ⟨rfl, rfl, rfl⟩ := H
                  obtain ⟨Ao10, co10, eo10⟩ := Kd.R_slice HO_5.out
                  subst eo10
                  have p280 : 0 ≤ (x9_1 : Int) := of_decide_eq_true (by first | (with_reducible assumption) | assumption)
                  have q280 : x9_1 < (t273.length : Int) := of_decide_eq_true (by first | (with_reducible assumption) | assumption)
                  obtain ⟨ad280, e280, hx280_0⟩ := Kd.at_string (Kd.R_reads' HO_5.out).2.2 x9_1 p280 q280
                  cases e280
                  replace p280 := eq_true p280
                  replace q280 := eq_true q280
                  obtain ⟨Ao11, co11, eo11⟩ := Kd.R_slice HO_8.out
                  subst eo11
                  go_wp2
                  go_ret3
                  exact ⟨_, by first | rfl | (simp [errW_none, errW_some] <;> rfl) | (simp [*, errW_none, errW_some] <;> rfl), by first | exact Kd.S_nil _ _ _ _ _ | exact Kd.N_nil _ _ _ _ _ | exact Kd.V_nil _ _ _ _ _ | exact Kd.Q_nil _ _ _ _ _ | exact Kd.R_nil _ _ _ _ _, by repeat (first | (with_reducible first | exact HB.out | apply below_alloc | apply pw_below_drewN | apply below_drew1) | exact HB.out)⟩
                · rw [if_neg c9] at H
                  have c9b0 : ((x8_1.length : Int) == 0) = false := beq_eq_false_iff_ne.mpr c9
                  have c9b1 : ((x8_1.length : Int) != 0) = true := bne_iff_ne.mpr c9
                  have c9b2 : ¬ (x8_1 = []) := fun h_ => c9 (by rw [h_]; rfl)
                  by_cases c12 : x9_1 = (wrap64 ((t273.length : Int) - 1))
                  · rw [if_pos c12] at H
                    have c12b0 : (x9_1 == (wrap64 ((t273.length : Int) - 1))) = true := beq_iff_eq.mpr c12
                    have c12b1 : (x9_1 != (wrap64 ((t273.length : Int) - 1))) = false := bne_eq_false_iff_eq.mpr c12
                    clear c12
                    simp only [Option.some.injEq, Prod.mk.injEq] at H
                    obtain ⟨rfl, rfl, rfl⟩ := H
                    obtain ⟨Ao13, co13, eo13⟩ := Kd.R_slice HO_5.out
                    subst eo13
                    have p280 : 0 ≤ (x9_1 : Int) := of_decide_eq_true (by first | (with_reducible assumption) | assumption)
                    have q280 : x9_1 < (t273.length : Int) := of_decide_eq_true (by first | (with_reducible assumption) | assumption)
                    obtain ⟨ad280, e280, hx280_0⟩ := Kd.at_string (Kd.R_reads' HO_5.out).2.2 x9_1 p280 q280
                    cases e280
                    replace p280 := eq_true p280
                    replace q280 := eq_true q280
                    obtain ⟨Ao14, co14, eo14⟩ := Kd.R_slice HO_8.out
                    subst eo14
                    go_wp2
                    go_ret3
                    exact ⟨_, by first | rfl | (simp [errW_none, errW_some] <;> rfl) | (simp [*, errW_none, errW_some] <;> rfl), by first | exact Kd.S_nil _ _ _ _ _ | exact Kd.N_nil _ _ _ _ _ | exact Kd.V_nil _ _ _ _ _ | exact Kd.Q_nil _ _ _ _ _ | exact Kd.R_nil _ _ _ _ _, by repeat (first | (with_reducible first | exact HB.out | apply below_alloc | apply pw_below_drewN | apply below_drew1) | exact HB.out)⟩
                  · rw [if_neg c12] at H
                    have c12b0 : (x9_1 == (wrap64 ((t273.length : Int) - 1))) = false := beq_eq_false_iff_ne.mpr c12
                    have c12b1 : (x9_1 != (wrap64 ((t273.length : Int) - 1))) = true := bne_iff_ne.mpr c12
                    by_cases c15 : x7_1.length < 5864062014805
                    · rw [if_pos c15] at H
                      have LMc15 := Aside0.mk c15
                      clear c15
                      obtain ⟨y281, hy281⟩ : ∃ y_ : List (List (S46)), y_ = (x7_1 ++ [x8_1]) := ⟨_, rfl⟩
                      replace H : (mancipleref9_ParseStanzas.l0 k1 t273 y281 ([] : List (S46)) (wrap64 (x9_1 + 1))) = some (r1, r2, r3) := by first | (rw [hy281]; with_reducible exact H) | (have H2_ := (Option.bind_some _ _).symm.trans H; rw [hy281]; with_reducible exact H2_) | (have H2_ := (Option.bind_some _ _).symm.trans H; with_reducible exact H2_) | with_reducible exact H | (rw [hy281]; exact H) | exact H
                      have Ny281 := Aside0.mk hy281
                      clear hy281
                      have H' := Aside0.mk H
                      clear H
                      obtain ⟨Ao16, co16, eo16⟩ := Kd.R_slice HO_5.out
                      subst eo16
                      have p280 : 0 ≤ (x9_1 : Int) := of_decide_eq_true (by first | (with_reducible assumption) | assumption)
                      have q280 : x9_1 < (t273.length : Int) := of_decide_eq_true (by first | (with_reducible assumption) | assumption)
                      obtain ⟨ad280, e280, hx280_0⟩ := Kd.at_string (Kd.R_reads' HO_5.out).2.2 x9_1 p280 q280
                      cases e280
                      replace p280 := eq_true p280
                      replace q280 := eq_true q280
                      obtain ⟨Ao17, co17, eo17⟩ := Kd.R_slice HO_8.out
                      subst eo17
                      go_wp2_with (first | ((with_reducible refine gate_builtin (b := .append) (xs := #[.tmp 46, .tmp 48]) rfl ?_); (try (refine gate_guard (by rfl) ?_; dsimp only)); at_builtin; refine Kd.S_append (Kd.slice 46 k46) (w0 := w) w.heap.size rfl (.tmp 46) (.tmp 48) 27 33 (.slice none 0 0) 24 rfl Tryd.underlying27 info33 rfl (by decide) (by omega) u7 x7_1 x8_1 [.slice Ao17 x8_1.length co17] (fun _ => True) (fun k_ => some k_ = (.slice Ao17 x8_1.length co17 : Value).ownBlock) rfl rfl ?aP (fun k_ hk_ => ((Kd.R_mono (ok' := fun k_ => ((fun _ => True)) k_ ∧ some k_ ≠ (u7 : Value).ownBlock) (Kd.R_apart' (HO_8.out) (Kd.S_typed HO_7.out) (by decide)) (fun k_ hk => ⟨trivial, hk.2⟩))).1 k_ hk_.symm) ?aF ?aO ?aB ?aS ?aL ?_; (case aP => exact Kd.M_row (Kd.R_mono (Kd.R_tight rfl (Kd.R_mono (ok' := fun k_ => ((fun _ => True)) k_ ∧ some k_ ≠ (u7 : Value).ownBlock) (Kd.R_apart' (HO_8.out) (Kd.S_typed HO_7.out) (by decide)) (fun k_ hk => ⟨trivial, hk.2⟩))) (fun _ h_ => h_))); (case aB => exact (by repeat (first | (with_reducible first | exact HB.out | apply below_alloc | apply pw_below_drewN | apply below_drew1) | exact HB.out))); (case aF => exact (fun _ _ => trivial)); (case aO => exact (by (with_reducible repeat (first | apply Kd.S_alloc | apply Kd.S_drewN | apply Kd.S_drew)); exact Kd.S_mono HO_7.out (fun k_ hk => ⟨trivial, fun e_ => hk e_⟩))); (case aS => exact (below_size (by repeat (first | (with_reducible first | exact HB.out | apply below_alloc | apply pw_below_drewN | apply below_drew1) | exact HB.out)))); (case aL => have := LMc15.out; omega); intro v282 w18 ho hb hg hat; rw [← Ny281.out] at ho; have n0_ := Aside0.mk (Kd.R_over' (by (with_reducible repeat (first | apply Kd.R_alloc | apply Kd.R_drewN | apply Kd.R_drew)); exact HO_5.out) (Kd.S_typed (by (with_reducible repeat (first | apply Kd.S_alloc | apply Kd.S_drewN | apply Kd.S_drew)); exact HO_7.out)) (by decide) hg); have n1_ := Aside0.mk (hb); have n2_ := Aside0.mk (ho); clear HO_5; clear HB; clear HO_7; clear HO_8; have HO_5 := n0_; have HB := n1_; have HO283 := n2_; clear n0_ n1_ n2_; clear ho hb hg hat))
                      go_roundg k1
                      case measure => have := HK1.out; omega
                      case rel => exact ⟨(y281), (([] : List (S46))), (wrap64 (x9_1 + 1)), (by first | rfl | (simp; done) | (simp [*]; done)), H', ⟨by have := HK1.out; omega⟩, ⟨by (with_reducible repeat (first | apply Kd.R_alloc | apply Kd.R_drewN | apply Kd.R_drew)); exact HO_5.out⟩, ⟨by (with_reducible repeat (first | apply Kd.S_alloc | apply Kd.S_drewN | apply Kd.S_drew)); exact Kd.S_mono HO283.out (fun _ hk => (by simp [Value.ownBlock]))⟩, ⟨by first | exact Kd.R_nil _ _ _ _ _ | exact Kd.N_nil _ _ _ _ _ | exact Kd.V_nil _ _ _ _ _ | exact Kd.Q_nil _ _ _ _ _ | exact Kd.S_nil _ _ _ _ _⟩, ⟨by repeat (first | (with_reducible first | exact HB.out | apply below_alloc | apply pw_below_drewN | apply below_drew1) | exact HB.out)⟩⟩
                    · rw [if_neg c15] at H
                      exact absurd H (by simp)
              · rw [if_neg c8] at H
                have c8b0 : ((rdOf ByteArray.empty t273 x9_1).toList == ([] : List UInt8)) = false := beq_eq_false_iff_ne.mpr c8
                have c8b1 : ((rdOf ByteArray.empty t273 x9_1).toList != ([] : List UInt8)) = true := bne_iff_ne.mpr c8
                have c8b2 : ((rdOf ByteArray.empty t273 x9_1).toList).isEmpty = false := Bool.eq_false_iff.mpr (fun h_ => c8 (List.isEmpty_iff.mp h_))
                replace H := Option.bind_eq_some_iff.mp H
                obtain ⟨⟨t285, t286, t287, t288⟩, A190, H⟩ := H
                replace H : (if t288 = true then ((mancipleref9_Get.f k1 x8_1 t285).bind fun bt290 => (if bt290.2.2.2 = true then (some (([] : List (List (S46))), x9_1, 6)) else (if x8_1.length < 3518437208883 then (mancipleref9_ParseStanzas.l0 k1 t273 x7_1 (x8_1 ++ [(⟨t285, t286, x9_1⟩ : S46)]) (wrap64 (x9_1 + 1))) else (none)))) else (some (([] : List (List (S46))), x9_1, 2))) = some (r1, r2, r3) := H
                have A19 := Aside0.mk A190
                clear A190
                by_cases c20 : t288 = true
                · subst c20
                  have H1 : ((mancipleref9_Get.f k1 x8_1 t285).bind fun bt290 => (if bt290.2.2.2 = true then (some (([] : List (List (S46))), x9_1, 6)) else (if x8_1.length < 3518437208883 then (mancipleref9_ParseStanzas.l0 k1 t273 x7_1 (x8_1 ++ [(⟨t285, t286, x9_1⟩ : S46)]) (wrap64 (x9_1 + 1))) else (none)))) = some (r1, r2, r3) := by rw [if_pos rfl] at H; exact H
                  clear H
                  have H := H1
                  clear H1
                  replace H := Option.bind_eq_some_iff.mp H
                  obtain ⟨⟨t290, t291, t292, t293⟩, A210, H⟩ := H
                  replace H : (if t293 = true then (some (([] : List (List (S46))), x9_1, 6)) else (if x8_1.length < 3518437208883 then (mancipleref9_ParseStanzas.l0 k1 t273 x7_1 (x8_1 ++ [(⟨t285, t286, x9_1⟩ : S46)]) (wrap64 (x9_1 + 1))) else (none))) = some (r1, r2, r3) := H
                  have A21 := Aside0.mk A210
                  clear A210
                  by_cases c22 : t293 = true
                  · subst c22
                    have H1 : (some (([] : List (List (S46))), x9_1, 6)) = some (r1, r2, r3) := by rw [if_pos rfl] at H; exact H
                    clear H
                    have H := H1
                    clear H1
                    simp only [Option.some.injEq, Prod.mk.injEq] at H
                    obtain ⟨rfl, rfl, rfl⟩ := H
                    obtain ⟨Ao23, co23, eo23⟩ := Kd.R_slice HO_5.out
                    subst eo23
                    have p280 : 0 ≤ (x9_1 : Int) := of_decide_eq_true (by first | (with_reducible assumption) | assumption)
                    have q280 : x9_1 < (t273.length : Int) := of_decide_eq_true (by first | (with_reducible assumption) | assumption)
                    obtain ⟨ad280, e280, hx280_0⟩ := Kd.at_string (Kd.R_reads' HO_5.out).2.2 x9_1 p280 q280
                    cases e280
                    replace p280 := eq_true p280
                    replace q280 := eq_true q280
                    have p284 : 0 ≤ (x9_1 : Int) := of_decide_eq_true (by first | (with_reducible assumption) | assumption)
                    have q284 : x9_1 < (t273.length : Int) := of_decide_eq_true (by first | (with_reducible assumption) | assumption)
                    obtain ⟨ad284, e284, hx284_0⟩ := Kd.at_string (Kd.R_reads' HO_5.out).2.2 x9_1 p284 q284
                    obtain rfl : ad280 = ad284 := (by injection e284)
                    replace p284 := eq_true p284
                    replace q284 := eq_true q284
                    go_wp2_with (first | ((with_reducible refine gate_callee (f := 25) rfl ?_); refine goesL_ (some 55) rfl rfl Tryd.func25 (by kernel_rfl) rfl #[.string (rdOf ByteArray.empty t273 x9_1)] rfl (by (try simp only [List.map_toArray, List.map_cons, List.map_nil]); first | done | rfl | (simp only [List.length_drop, List.length_take]; rfl)) ?_; (with_reducible refine (mancipleref9_field.calls k1 (rdOf ByteArray.empty t273 x9_1) t285 t286 t287 true _ A19.out).mono ?_); rintro e w24 ⟨rfl, hb⟩; refine ⟨_, rfl, ?_⟩; have n0_ := Aside0.mk (Kd.R_below (by (with_reducible repeat (first | apply Kd.R_alloc | apply Kd.R_drewN | apply Kd.R_drew)); exact HO_5.out) hb); have n1_ := Aside0.mk (Kd.S_below (by (with_reducible repeat (first | apply Kd.S_alloc | apply Kd.S_drewN | apply Kd.S_drew)); exact HO_7.out) hb); have n2_ := Aside0.mk (Kd.R_below (by (with_reducible repeat (first | apply Kd.R_alloc | apply Kd.R_drewN | apply Kd.R_drew)); exact HO_8.out) hb); have n3_ := Aside0.mk (below_step (by repeat (first | (with_reducible first | exact HB.out | apply below_alloc | apply pw_below_drewN | apply below_drew1) | exact HB.out)) hb); clear HO_5; clear HO_7; clear HO_8; clear HB; have HO_5 := n0_; have HO_7 := n1_; have HO_8 := n2_; have HB := n3_; clear n0_ n1_ n2_ n3_; (try clear hb); (try clear hb2); (try clear hk); (try clear hi)) | ((with_reducible refine gate_dst (N := 10) rfl ?_); (try (refine gate_guard (by rfl) ?_; dsimp only)); refine box_event ?hg (N := 10) ?hd (cs := #[.string (⟨#[]⟩ : ByteArray), .string (⟨#[]⟩ : ByteArray), .int .i64 0]) (t := 46) ?hr ?_; (case hd => rfl); (case hg => rfl); (case hr => first | (go_simp; done) | (go_simp; rfl)); intro gb289 hg w25 hbox hb; have n0_ := Aside0.mk (Kd.R_below (by (with_reducible repeat (first | apply Kd.R_alloc | apply Kd.R_drewN | apply Kd.R_drew)); exact HO_5.out) hb); have n1_ := Aside0.mk (Kd.S_below (Kd.S_elderB (by (with_reducible repeat (first | apply Kd.S_alloc | apply Kd.S_drewN | apply Kd.S_drew)); exact HO_7.out) gb289 (Nat.le_of_eq hg.symm)) hb); have n2_ := Aside0.mk (Kd.R_below (Kd.R_elderB (by (with_reducible repeat (first | apply Kd.R_alloc | apply Kd.R_drewN | apply Kd.R_drew)); exact HO_8.out) gb289 (Nat.le_of_eq hg.symm)) hb); have n3_ := Aside0.mk (below_step (by repeat (first | (with_reducible first | exact HB.out | apply below_alloc | apply pw_below_drewN | apply below_drew1) | exact HB.out)) hb); have n4_ := Aside0.mk (hbox); have n5_ := Aside0.mk ((by rw [hg]; exact (below_size (by repeat (first | (with_reducible first | exact HB.out | apply below_alloc | apply pw_below_drewN | apply below_drew1) | exact HB.out))) : w.heap.size ≤ gb289)); have n6_ := Aside0.mk ((by rw [hg]; exact (below_size (by repeat (first | (with_reducible first | exact HB.out | apply below_alloc | apply pw_below_drewN | apply below_drew1) | exact HB.out))) : w.heap.size ≤ gb289)); clear HO_5; clear HO_7; clear HO_8; clear HB; have HO_5 := n0_; have HO_7 := n1_; have HO_8 := n2_; have HB := n3_; have BK289 := n4_; have GW289 := n5_; have GE289 := n6_; clear n0_ n1_ n2_ n3_ n4_ n5_ n6_; clear hb hbox hg; have hcz26_0 : w25.cell? ⟨gb289, 0, none⟩ = some (.string (⟨#[]⟩ : ByteArray)) := (blk_cell BK289.out 0).trans rfl; have hcz26_1 : w25.cell? ⟨gb289, 1, none⟩ = some (.string (⟨#[]⟩ : ByteArray)) := (blk_cell BK289.out 1).trans rfl; have hcz26_2 : w25.cell? ⟨gb289, 2, none⟩ = some (.int .i64 0) := (blk_cell BK289.out 2).trans rfl; have hfz26_0 := blk_frozen BK289.out 0; have hfz26_1 := blk_frozen BK289.out 1; have hfz26_2 := blk_frozen BK289.out 2; obtain ⟨Ao27, co27, eo27⟩ := Kd.R_slice HO_8.out; subst eo27) | ((with_reducible refine gate_callee (f := 16) rfl ?_); refine goesL_ (some 65) rfl rfl Tryd.func16 (by kernel_rfl) rfl #[.slice Ao27 x8_1.length co27, .string t285] rfl (by (try simp only [List.map_toArray, List.map_cons, List.map_nil]); first | done | rfl | (simp only [List.length_drop, List.length_take]; rfl)) ?_; (with_reducible refine (mancipleref9_Get.calls k1 _ _ x8_1 t285 t290 t291 t292 true _ ?side1 ?side2 A21.out).mono ?_); (case side1 => refine (Kd.R_reads' (e := 46) (base := w.heap.size) (ok := fun k_ => (True ∧ k_ ≠ gb289)) (n := x8_1.length) (c := co27) ?_).2.2; exact (by (with_reducible repeat (first | apply Kd.R_alloc | apply Kd.R_drewN | apply Kd.R_drew)); exact (Kd.R_mono (Kd.R_far (p := ⟨gb289, 2, none⟩) (Kd.R_far (p := ⟨gb289, 1, none⟩) (Kd.R_far (p := ⟨gb289, 0, none⟩) (Kd.R_mono HO_8.out (fun k_ hk => (⟨hk, hk.2⟩ : _ ∧ k_ ≠ gb289))) (fun _ hk => hk.2) (.string t285)) (fun _ hk => hk.2) (.string t286)) (fun _ hk => hk.2) (.int .i64 t287)) (fun _ h_ => h_.1)))); (case side2 => exact (Kd.R_reads' HO_8.out).2.1); rintro e w28 ⟨rfl, hb⟩; refine ⟨_, rfl, ?_⟩; have n0_ := Aside0.mk (Kd.R_below (by (with_reducible repeat (first | apply Kd.R_alloc | apply Kd.R_drewN | apply Kd.R_drew)); exact (Kd.R_mono (Kd.R_far (p := ⟨gb289, 2, none⟩) (Kd.R_far (p := ⟨gb289, 1, none⟩) (Kd.R_far (p := ⟨gb289, 0, none⟩) (Kd.R_types HO_5.out BK289.out (by decide)) (fun _ hk => hk.2) (.string t285)) (fun _ hk => hk.2) (.string t286)) (fun _ hk => hk.2) (.int .i64 t287)) (fun _ h_ => h_.1))) hb); have n1_ := Aside0.mk (Kd.S_below (by (with_reducible repeat (first | apply Kd.S_alloc | apply Kd.S_drewN | apply Kd.S_drew)); exact (Kd.S_mono (Kd.S_far (p := ⟨gb289, 2, none⟩) (Kd.S_far (p := ⟨gb289, 1, none⟩) (Kd.S_far (p := ⟨gb289, 0, none⟩) (Kd.S_mono HO_7.out (fun k_ hk => (⟨hk, hk.2⟩ : _ ∧ k_ ≠ gb289))) (fun _ hk => hk.2) (.string t285)) (fun _ hk => hk.2) (.string t286)) (fun _ hk => hk.2) (.int .i64 t287)) (fun _ h_ => h_.1))) hb); have n2_ := Aside0.mk (Kd.R_below (by (with_reducible repeat (first | apply Kd.R_alloc | apply Kd.R_drewN | apply Kd.R_drew)); exact (Kd.R_mono (Kd.R_far (p := ⟨gb289, 2, none⟩) (Kd.R_far (p := ⟨gb289, 1, none⟩) (Kd.R_far (p := ⟨gb289, 0, none⟩) (Kd.R_mono HO_8.out (fun k_ hk => (⟨hk, hk.2⟩ : _ ∧ k_ ≠ gb289))) (fun _ hk => hk.2) (.string t285)) (fun _ hk => hk.2) (.string t286)) (fun _ hk => hk.2) (.int .i64 t287)) (fun _ h_ => h_.1))) hb); have n3_ := Aside0.mk (blk_below (g := gb289) (o := .cells #[.string t285, .string t286, .int .i64 t287] 46 (0, 0)) (by (with_reducible repeat (first | refine blk_drewN ?_ _ | refine blk_drew ?_ | refine blk_alloc ?_ _)); refine blk_put (cs := #[.string t285, .string t286, .int .i64 0]) ?_ 2 _ rfl; (with_reducible repeat (first | refine blk_drewN ?_ _ | refine blk_drew ?_ | refine blk_alloc ?_ _)); refine blk_put (cs := #[.string t285, .string (⟨#[]⟩ : ByteArray), .int .i64 0]) ?_ 1 _ rfl; (with_reducible repeat (first | refine blk_drewN ?_ _ | refine blk_drew ?_ | refine blk_alloc ?_ _)); refine blk_put (cs := #[.string (⟨#[]⟩ : ByteArray), .string (⟨#[]⟩ : ByteArray), .int .i64 0]) ?_ 0 _ rfl; (with_reducible repeat (first | refine blk_drewN ?_ _ | refine blk_drew ?_ | refine blk_alloc ?_ _)); exact BK289.out) hb); have n4_ := Aside0.mk (below_step (by repeat (first | (with_reducible first | exact HB.out | apply below_alloc | apply pw_below_drewN | apply below_drew1 | refine below_set ?_ GE289.out) | exact HB.out)) hb); clear HO_5; clear HO_7; clear HO_8; clear BK289; clear HB; have HO_5 := n0_; have HO_7 := n1_; have HO_8 := n2_; have BK289 := n3_; have HB := n4_; clear n0_ n1_ n2_ n3_ n4_; (try clear hb); (try clear hb2); (try clear hk); (try clear hi)) | ((with_reducible refine gate_dst (N := 12) rfl ?_); (try (refine gate_guard (by rfl) ?_; dsimp only)); refine box_event ?hg (N := 12) ?hd (cs := #[.string (⟨#[]⟩ : ByteArray), .string (⟨#[]⟩ : ByteArray), .int .i64 0]) (t := 46) ?hr ?_; (case hd => rfl); (case hg => rfl); (case hr => first | (go_simp; done) | (go_simp; rfl)); intro gb294 hg w29 hbox hb; have n0_ := Aside0.mk (Kd.R_below (by (with_reducible repeat (first | apply Kd.R_alloc | apply Kd.R_drewN | apply Kd.R_drew)); exact HO_5.out) hb); have n1_ := Aside0.mk (Kd.S_below (Kd.S_elderB (by (with_reducible repeat (first | apply Kd.S_alloc | apply Kd.S_drewN | apply Kd.S_drew)); exact HO_7.out) gb294 (Nat.le_of_eq hg.symm)) hb); have n2_ := Aside0.mk (Kd.R_below (Kd.R_elderB (by (with_reducible repeat (first | apply Kd.R_alloc | apply Kd.R_drewN | apply Kd.R_drew)); exact HO_8.out) gb294 (Nat.le_of_eq hg.symm)) hb); have n3_ := Aside0.mk (blk_below (g := gb289) (o := .cells #[.string t285, .string t286, .int .i64 t287] 46 (0, 0)) (by (with_reducible repeat (first | refine blk_drewN ?_ _ | refine blk_drew ?_ | refine blk_alloc ?_ _)); exact BK289.out) hb); have n4_ := Aside0.mk (below_step (by repeat (first | (with_reducible first | exact HB.out | apply below_alloc | apply pw_below_drewN | apply below_drew1 | refine below_set ?_ GE289.out) | exact HB.out)) hb); have n5_ := Aside0.mk (hbox); have n6_ := Aside0.mk ((by rw [hg]; exact (below_size (by repeat (first | (with_reducible first | exact HB.out | apply below_alloc | apply pw_below_drewN | apply below_drew1 | refine below_set ?_ GE289.out) | exact HB.out))) : w.heap.size ≤ gb294)); have n7_ := Aside0.mk ((by rw [hg]; exact (below_size (by repeat (first | (with_reducible first | exact HB.out | apply below_alloc | apply pw_below_drewN | apply below_drew1 | refine below_set ?_ GE289.out) | exact HB.out))) : w.heap.size ≤ gb294)); have n8_ := Aside0.mk ((by rw [hg]; exact Nat.ne_of_lt (blk_lt (g := gb289) (o := .cells #[.string t285, .string t286, .int .i64 t287] 46 (0, 0)) (by (with_reducible repeat (first | refine blk_drewN ?_ _ | refine blk_drew ?_ | refine blk_alloc ?_ _)); exact BK289.out)) : gb289 ≠ gb294)); have n9_ := Aside0.mk ((by rw [hg]; exact Nat.ne_of_gt (blk_lt (g := gb289) (o := .cells #[.string t285, .string t286, .int .i64 t287] 46 (0, 0)) (by (with_reducible repeat (first | refine blk_drewN ?_ _ | refine blk_drew ?_ | refine blk_alloc ?_ _)); exact BK289.out)) : gb294 ≠ gb289)); clear HO_5; clear HO_7; clear HO_8; clear BK289; clear HB; have HO_5 := n0_; have HO_7 := n1_; have HO_8 := n2_; have BK289 := n3_; have HB := n4_; have BK294 := n5_; have GW294 := n6_; have GE294 := n7_; have NB289_294 := n8_; have NB294_289 := n9_; clear n0_ n1_ n2_ n3_ n4_ n5_ n6_ n7_ n8_ n9_; clear hb hbox hg; have hnb30 := NB294_289.out; have hnc30 := NB289_294.out; have hcz31_0 : w29.cell? ⟨gb294, 0, none⟩ = some (.string (⟨#[]⟩ : ByteArray)) := (blk_cell BK294.out 0).trans rfl; have hcz31_1 : w29.cell? ⟨gb294, 1, none⟩ = some (.string (⟨#[]⟩ : ByteArray)) := (blk_cell BK294.out 1).trans rfl; have hcz31_2 : w29.cell? ⟨gb294, 2, none⟩ = some (.int .i64 0) := (blk_cell BK294.out 2).trans rfl; have hfz31_0 := blk_frozen BK294.out 0; have hfz31_1 := blk_frozen BK294.out 1; have hfz31_2 := blk_frozen BK294.out 2))
                    go_ret3
                    exact ⟨_, by first | rfl | (simp [errW_none, errW_some] <;> rfl) | (simp [*, errW_none, errW_some] <;> rfl), by first | exact Kd.S_nil _ _ _ _ _ | exact Kd.N_nil _ _ _ _ _ | exact Kd.V_nil _ _ _ _ _ | exact Kd.Q_nil _ _ _ _ _ | exact Kd.R_nil _ _ _ _ _, by repeat (first | (with_reducible first | exact HB.out | apply below_alloc | apply pw_below_drewN | apply below_drew1 | refine below_set ?_ GE289.out | refine below_set ?_ GE294.out) | exact HB.out)⟩
                  · replace c22 := Bool.eq_false_iff.mpr c22
                    subst c22
                    have H1 : (if x8_1.length < 3518437208883 then (mancipleref9_ParseStanzas.l0 k1 t273 x7_1 (x8_1 ++ [(⟨t285, t286, x9_1⟩ : S46)]) (wrap64 (x9_1 + 1))) else (none)) = some (r1, r2, r3) := by rw [if_neg (show ¬ (false = true) by decide)] at H; exact H
                    clear H
                    have H := H1
                    clear H1
                    by_cases c32 : x8_1.length < 3518437208883
                    · rw [if_pos c32] at H
                      have LMc32 := Aside0.mk c32
                      clear c32
                      obtain ⟨y295, hy295⟩ : ∃ y_ : List (S46), y_ = (x8_1 ++ [(⟨t285, t286, x9_1⟩ : S46)]) := ⟨_, rfl⟩
                      replace H : (mancipleref9_ParseStanzas.l0 k1 t273 x7_1 y295 (wrap64 (x9_1 + 1))) = some (r1, r2, r3) := by first | (rw [hy295]; with_reducible exact H) | (have H2_ := (Option.bind_some _ _).symm.trans H; rw [hy295]; with_reducible exact H2_) | (have H2_ := (Option.bind_some _ _).symm.trans H; with_reducible exact H2_) | with_reducible exact H | (rw [hy295]; exact H) | exact H
                      have Ny295 := Aside0.mk hy295
                      clear hy295
                      have H' := Aside0.mk H
                      clear H
                      obtain ⟨Ao33, co33, eo33⟩ := Kd.R_slice HO_5.out
                      subst eo33
                      have p280 : 0 ≤ (x9_1 : Int) := of_decide_eq_true (by first | (with_reducible assumption) | assumption)
                      have q280 : x9_1 < (t273.length : Int) := of_decide_eq_true (by first | (with_reducible assumption) | assumption)
                      obtain ⟨ad280, e280, hx280_0⟩ := Kd.at_string (Kd.R_reads' HO_5.out).2.2 x9_1 p280 q280
                      cases e280
                      replace p280 := eq_true p280
                      replace q280 := eq_true q280
                      have p284 : 0 ≤ (x9_1 : Int) := of_decide_eq_true (by first | (with_reducible assumption) | assumption)
                      have q284 : x9_1 < (t273.length : Int) := of_decide_eq_true (by first | (with_reducible assumption) | assumption)
                      obtain ⟨ad284, e284, hx284_0⟩ := Kd.at_string (Kd.R_reads' HO_5.out).2.2 x9_1 p284 q284
                      obtain rfl : ad280 = ad284 := (by injection e284)
                      replace p284 := eq_true p284
                      replace q284 := eq_true q284
                      go_wp2_with (first | ((with_reducible refine gate_callee (f := 25) rfl ?_); refine goesL_ (some 55) rfl rfl Tryd.func25 (by kernel_rfl) rfl #[.string (rdOf ByteArray.empty t273 x9_1)] rfl (by (try simp only [List.map_toArray, List.map_cons, List.map_nil]); first | done | rfl | (simp only [List.length_drop, List.length_take]; rfl)) ?_; (with_reducible refine (mancipleref9_field.calls k1 (rdOf ByteArray.empty t273 x9_1) t285 t286 t287 true _ A19.out).mono ?_); rintro e w34 ⟨rfl, hb⟩; refine ⟨_, rfl, ?_⟩; have n0_ := Aside0.mk (Kd.R_below (by (with_reducible repeat (first | apply Kd.R_alloc | apply Kd.R_drewN | apply Kd.R_drew)); exact HO_5.out) hb); have n1_ := Aside0.mk (Kd.S_below (by (with_reducible repeat (first | apply Kd.S_alloc | apply Kd.S_drewN | apply Kd.S_drew)); exact HO_7.out) hb); have n2_ := Aside0.mk (Kd.R_below (by (with_reducible repeat (first | apply Kd.R_alloc | apply Kd.R_drewN | apply Kd.R_drew)); exact HO_8.out) hb); have n3_ := Aside0.mk (below_step (by repeat (first | (with_reducible first | exact HB.out | apply below_alloc | apply pw_below_drewN | apply below_drew1) | exact HB.out)) hb); clear HO_5; clear HO_7; clear HO_8; clear HB; have HO_5 := n0_; have HO_7 := n1_; have HO_8 := n2_; have HB := n3_; clear n0_ n1_ n2_ n3_; (try clear hb); (try clear hb2); (try clear hk); (try clear hi)) | ((with_reducible refine gate_dst (N := 10) rfl ?_); (try (refine gate_guard (by rfl) ?_; dsimp only)); refine box_event ?hg (N := 10) ?hd (cs := #[.string (⟨#[]⟩ : ByteArray), .string (⟨#[]⟩ : ByteArray), .int .i64 0]) (t := 46) ?hr ?_; (case hd => rfl); (case hg => rfl); (case hr => first | (go_simp; done) | (go_simp; rfl)); intro gb289 hg w35 hbox hb; have n0_ := Aside0.mk (Kd.R_below (by (with_reducible repeat (first | apply Kd.R_alloc | apply Kd.R_drewN | apply Kd.R_drew)); exact HO_5.out) hb); have n1_ := Aside0.mk (Kd.S_below (Kd.S_elderB (by (with_reducible repeat (first | apply Kd.S_alloc | apply Kd.S_drewN | apply Kd.S_drew)); exact HO_7.out) gb289 (Nat.le_of_eq hg.symm)) hb); have n2_ := Aside0.mk (Kd.R_below (Kd.R_elderB (by (with_reducible repeat (first | apply Kd.R_alloc | apply Kd.R_drewN | apply Kd.R_drew)); exact HO_8.out) gb289 (Nat.le_of_eq hg.symm)) hb); have n3_ := Aside0.mk (below_step (by repeat (first | (with_reducible first | exact HB.out | apply below_alloc | apply pw_below_drewN | apply below_drew1) | exact HB.out)) hb); have n4_ := Aside0.mk (hbox); have n5_ := Aside0.mk ((by rw [hg]; exact (below_size (by repeat (first | (with_reducible first | exact HB.out | apply below_alloc | apply pw_below_drewN | apply below_drew1) | exact HB.out))) : w.heap.size ≤ gb289)); have n6_ := Aside0.mk ((by rw [hg]; exact (below_size (by repeat (first | (with_reducible first | exact HB.out | apply below_alloc | apply pw_below_drewN | apply below_drew1) | exact HB.out))) : w.heap.size ≤ gb289)); clear HO_5; clear HO_7; clear HO_8; clear HB; have HO_5 := n0_; have HO_7 := n1_; have HO_8 := n2_; have HB := n3_; have BK289 := n4_; have GW289 := n5_; have GE289 := n6_; clear n0_ n1_ n2_ n3_ n4_ n5_ n6_; clear hb hbox hg; have hcz36_0 : w35.cell? ⟨gb289, 0, none⟩ = some (.string (⟨#[]⟩ : ByteArray)) := (blk_cell BK289.out 0).trans rfl; have hcz36_1 : w35.cell? ⟨gb289, 1, none⟩ = some (.string (⟨#[]⟩ : ByteArray)) := (blk_cell BK289.out 1).trans rfl; have hcz36_2 : w35.cell? ⟨gb289, 2, none⟩ = some (.int .i64 0) := (blk_cell BK289.out 2).trans rfl; have hfz36_0 := blk_frozen BK289.out 0; have hfz36_1 := blk_frozen BK289.out 1; have hfz36_2 := blk_frozen BK289.out 2; obtain ⟨Ao37, co37, eo37⟩ := Kd.R_slice HO_8.out; subst eo37) | ((with_reducible refine gate_callee (f := 16) rfl ?_); refine goesL_ (some 65) rfl rfl Tryd.func16 (by kernel_rfl) rfl #[.slice Ao37 x8_1.length co37, .string t285] rfl (by (try simp only [List.map_toArray, List.map_cons, List.map_nil]); first | done | rfl | (simp only [List.length_drop, List.length_take]; rfl)) ?_; (with_reducible refine (mancipleref9_Get.calls k1 _ _ x8_1 t285 t290 t291 t292 false _ ?side1 ?side2 A21.out).mono ?_); (case side1 => refine (Kd.R_reads' (e := 46) (base := w.heap.size) (ok := fun k_ => (True ∧ k_ ≠ gb289)) (n := x8_1.length) (c := co37) ?_).2.2; exact (by (with_reducible repeat (first | apply Kd.R_alloc | apply Kd.R_drewN | apply Kd.R_drew)); exact (Kd.R_mono (Kd.R_far (p := ⟨gb289, 2, none⟩) (Kd.R_far (p := ⟨gb289, 1, none⟩) (Kd.R_far (p := ⟨gb289, 0, none⟩) (Kd.R_mono HO_8.out (fun k_ hk => (⟨hk, hk.2⟩ : _ ∧ k_ ≠ gb289))) (fun _ hk => hk.2) (.string t285)) (fun _ hk => hk.2) (.string t286)) (fun _ hk => hk.2) (.int .i64 t287)) (fun _ h_ => h_.1)))); (case side2 => exact (Kd.R_reads' HO_8.out).2.1); rintro e w38 ⟨rfl, hb⟩; refine ⟨_, rfl, ?_⟩; have n0_ := Aside0.mk (Kd.R_below (by (with_reducible repeat (first | apply Kd.R_alloc | apply Kd.R_drewN | apply Kd.R_drew)); exact (Kd.R_mono (Kd.R_far (p := ⟨gb289, 2, none⟩) (Kd.R_far (p := ⟨gb289, 1, none⟩) (Kd.R_far (p := ⟨gb289, 0, none⟩) (Kd.R_types HO_5.out BK289.out (by decide)) (fun _ hk => hk.2) (.string t285)) (fun _ hk => hk.2) (.string t286)) (fun _ hk => hk.2) (.int .i64 t287)) (fun _ h_ => h_.1))) hb); have n1_ := Aside0.mk (Kd.S_below (by (with_reducible repeat (first | apply Kd.S_alloc | apply Kd.S_drewN | apply Kd.S_drew)); exact (Kd.S_mono (Kd.S_far (p := ⟨gb289, 2, none⟩) (Kd.S_far (p := ⟨gb289, 1, none⟩) (Kd.S_far (p := ⟨gb289, 0, none⟩) (Kd.S_mono HO_7.out (fun k_ hk => (⟨hk, hk.2⟩ : _ ∧ k_ ≠ gb289))) (fun _ hk => hk.2) (.string t285)) (fun _ hk => hk.2) (.string t286)) (fun _ hk => hk.2) (.int .i64 t287)) (fun _ h_ => h_.1))) hb); have n2_ := Aside0.mk (Kd.R_below (by (with_reducible repeat (first | apply Kd.R_alloc | apply Kd.R_drewN | apply Kd.R_drew)); exact (Kd.R_mono (Kd.R_far (p := ⟨gb289, 2, none⟩) (Kd.R_far (p := ⟨gb289, 1, none⟩) (Kd.R_far (p := ⟨gb289, 0, none⟩) (Kd.R_mono HO_8.out (fun k_ hk => (⟨hk, hk.2⟩ : _ ∧ k_ ≠ gb289))) (fun _ hk => hk.2) (.string t285)) (fun _ hk => hk.2) (.string t286)) (fun _ hk => hk.2) (.int .i64 t287)) (fun _ h_ => h_.1))) hb); have n3_ := Aside0.mk (blk_below (g := gb289) (o := .cells #[.string t285, .string t286, .int .i64 t287] 46 (0, 0)) (by (with_reducible repeat (first | refine blk_drewN ?_ _ | refine blk_drew ?_ | refine blk_alloc ?_ _)); refine blk_put (cs := #[.string t285, .string t286, .int .i64 0]) ?_ 2 _ rfl; (with_reducible repeat (first | refine blk_drewN ?_ _ | refine blk_drew ?_ | refine blk_alloc ?_ _)); refine blk_put (cs := #[.string t285, .string (⟨#[]⟩ : ByteArray), .int .i64 0]) ?_ 1 _ rfl; (with_reducible repeat (first | refine blk_drewN ?_ _ | refine blk_drew ?_ | refine blk_alloc ?_ _)); refine blk_put (cs := #[.string (⟨#[]⟩ : ByteArray), .string (⟨#[]⟩ : ByteArray), .int .i64 0]) ?_ 0 _ rfl; (with_reducible repeat (first | refine blk_drewN ?_ _ | refine blk_drew ?_ | refine blk_alloc ?_ _)); exact BK289.out) hb); have n4_ := Aside0.mk (below_step (by repeat (first | (with_reducible first | exact HB.out | apply below_alloc | apply pw_below_drewN | apply below_drew1 | refine below_set ?_ GE289.out) | exact HB.out)) hb); clear HO_5; clear HO_7; clear HO_8; clear BK289; clear HB; have HO_5 := n0_; have HO_7 := n1_; have HO_8 := n2_; have BK289 := n3_; have HB := n4_; clear n0_ n1_ n2_ n3_ n4_; (try clear hb); (try clear hb2); (try clear hk); (try clear hi)) | ((with_reducible refine gate_dst (N := 12) rfl ?_); (try (refine gate_guard (by rfl) ?_; dsimp only)); refine box_event ?hg (N := 12) ?hd (cs := #[.string (⟨#[]⟩ : ByteArray), .string (⟨#[]⟩ : ByteArray), .int .i64 0]) (t := 46) ?hr ?_; (case hd => rfl); (case hg => rfl); (case hr => first | (go_simp; done) | (go_simp; rfl)); intro gb294 hg w39 hbox hb; have n0_ := Aside0.mk (Kd.R_below (by (with_reducible repeat (first | apply Kd.R_alloc | apply Kd.R_drewN | apply Kd.R_drew)); exact HO_5.out) hb); have n1_ := Aside0.mk (Kd.S_below (Kd.S_elderB (by (with_reducible repeat (first | apply Kd.S_alloc | apply Kd.S_drewN | apply Kd.S_drew)); exact HO_7.out) gb294 (Nat.le_of_eq hg.symm)) hb); have n2_ := Aside0.mk (Kd.R_below (Kd.R_elderB (by (with_reducible repeat (first | apply Kd.R_alloc | apply Kd.R_drewN | apply Kd.R_drew)); exact HO_8.out) gb294 (Nat.le_of_eq hg.symm)) hb); have n3_ := Aside0.mk (blk_below (g := gb289) (o := .cells #[.string t285, .string t286, .int .i64 t287] 46 (0, 0)) (by (with_reducible repeat (first | refine blk_drewN ?_ _ | refine blk_drew ?_ | refine blk_alloc ?_ _)); exact BK289.out) hb); have n4_ := Aside0.mk (below_step (by repeat (first | (with_reducible first | exact HB.out | apply below_alloc | apply pw_below_drewN | apply below_drew1 | refine below_set ?_ GE289.out) | exact HB.out)) hb); have n5_ := Aside0.mk (hbox); have n6_ := Aside0.mk ((by rw [hg]; exact (below_size (by repeat (first | (with_reducible first | exact HB.out | apply below_alloc | apply pw_below_drewN | apply below_drew1 | refine below_set ?_ GE289.out) | exact HB.out))) : w.heap.size ≤ gb294)); have n7_ := Aside0.mk ((by rw [hg]; exact (below_size (by repeat (first | (with_reducible first | exact HB.out | apply below_alloc | apply pw_below_drewN | apply below_drew1 | refine below_set ?_ GE289.out) | exact HB.out))) : w.heap.size ≤ gb294)); have n8_ := Aside0.mk ((by rw [hg]; exact Nat.ne_of_lt (blk_lt (g := gb289) (o := .cells #[.string t285, .string t286, .int .i64 t287] 46 (0, 0)) (by (with_reducible repeat (first | refine blk_drewN ?_ _ | refine blk_drew ?_ | refine blk_alloc ?_ _)); exact BK289.out)) : gb289 ≠ gb294)); have n9_ := Aside0.mk ((by rw [hg]; exact Nat.ne_of_gt (blk_lt (g := gb289) (o := .cells #[.string t285, .string t286, .int .i64 t287] 46 (0, 0)) (by (with_reducible repeat (first | refine blk_drewN ?_ _ | refine blk_drew ?_ | refine blk_alloc ?_ _)); exact BK289.out)) : gb294 ≠ gb289)); clear HO_5; clear HO_7; clear HO_8; clear BK289; clear HB; have HO_5 := n0_; have HO_7 := n1_; have HO_8 := n2_; have BK289 := n3_; have HB := n4_; have BK294 := n5_; have GW294 := n6_; have GE294 := n7_; have NB289_294 := n8_; have NB294_289 := n9_; clear n0_ n1_ n2_ n3_ n4_ n5_ n6_ n7_ n8_ n9_; clear hb hbox hg; have hnb40 := NB294_289.out; have hnc40 := NB289_294.out; have hcz41_0 : w39.cell? ⟨gb294, 0, none⟩ = some (.string (⟨#[]⟩ : ByteArray)) := (blk_cell BK294.out 0).trans rfl; have hcz41_1 : w39.cell? ⟨gb294, 1, none⟩ = some (.string (⟨#[]⟩ : ByteArray)) := (blk_cell BK294.out 1).trans rfl; have hcz41_2 : w39.cell? ⟨gb294, 2, none⟩ = some (.int .i64 0) := (blk_cell BK294.out 2).trans rfl; have hfz41_0 := blk_frozen BK294.out 0; have hfz41_1 := blk_frozen BK294.out 1; have hfz41_2 := blk_frozen BK294.out 2; have hcz42_0 : w39.cell? ⟨gb289, 0, none⟩ = some (.string t285) := (blk_cell BK289.out 0).trans rfl; have hcz42_1 : w39.cell? ⟨gb289, 1, none⟩ = some (.string t286) := (blk_cell BK289.out 1).trans rfl; have hcz42_2 : w39.cell? ⟨gb289, 2, none⟩ = some (.int .i64 t287) := (blk_cell BK289.out 2).trans rfl; have hfz42_0 := blk_frozen BK289.out 0; have hfz42_1 := blk_frozen BK289.out 1; have hfz42_2 := blk_frozen BK289.out 2) | ((with_reducible refine gate_builtin (b := .append) (xs := #[.tmp 72, .tmp 74]) rfl ?_); (try (refine gate_guard (by rfl) ?_; dsimp only)); at_builtin; refine Kd.R_append k46 (w0 := w) w.heap.size rfl (.tmp 72) (.tmp 74) 33 46 (.agg #[(.string ⟨#[]⟩), (.string ⟨#[]⟩), (.int .i64 0)]) 40 rfl Tryd.underlying33 info46 rfl (by decide) (by omega) (.slice Ao37 x8_1.length co37) x8_1 (⟨t285, t286, x9_1⟩ : S46) [.string t285, .string t286, .int .i64 x9_1] (fun k_ => k_ ≠ gb289 ∧ k_ ≠ gb294) (fun _ => False) rfl (by first | (go_simp; done) | (go_simp; rfl)) ?aP (fun _ hk => hk.elim) ?aF ?aO ?aB ?aS ?aL ?_; (case aP => exact k46_mkM _ _ _ (⟨t285, t286, x9_1⟩ : S46)); (case aB => exact (by repeat (first | (with_reducible first | exact HB.out | apply below_alloc | apply pw_below_drewN | apply below_drew1 | refine below_set ?_ GE289.out | refine below_set ?_ GE294.out) | exact HB.out))); (case aF => exact (fun k_ hk => ⟨Kd.freshB (g := gb289) (o := .cells #[.string t285, .string t286, .int .i64 x9_1] 46 (0, 0)) (by (with_reducible repeat (first | refine blk_drewN ?_ _ | refine blk_drew ?_ | refine blk_alloc ?_ _)); refine blk_put (cs := #[.string t285, .string t286, .int .i64 t287]) ?_ 2 _ rfl; (with_reducible repeat (first | refine blk_drewN ?_ _ | refine blk_drew ?_ | refine blk_alloc ?_ _)); refine blk_far ?_ NB289_294.out _; (with_reducible repeat (first | refine blk_drewN ?_ _ | refine blk_drew ?_ | refine blk_alloc ?_ _)); refine blk_far ?_ NB289_294.out _; (with_reducible repeat (first | refine blk_drewN ?_ _ | refine blk_drew ?_ | refine blk_alloc ?_ _)); refine blk_far ?_ NB289_294.out _; (with_reducible repeat (first | refine blk_drewN ?_ _ | refine blk_drew ?_ | refine blk_alloc ?_ _)); exact BK289.out) k_ hk, Kd.freshB (g := gb294) (o := .cells #[.string t290, .string t291, .int .i64 t292] 46 (0, 0)) (by (with_reducible repeat (first | refine blk_drewN ?_ _ | refine blk_drew ?_ | refine blk_alloc ?_ _)); refine blk_far ?_ NB294_289.out _; (with_reducible repeat (first | refine blk_drewN ?_ _ | refine blk_drew ?_ | refine blk_alloc ?_ _)); refine blk_put (cs := #[.string t290, .string t291, .int .i64 0]) ?_ 2 _ rfl; (with_reducible repeat (first | refine blk_drewN ?_ _ | refine blk_drew ?_ | refine blk_alloc ?_ _)); refine blk_put (cs := #[.string t290, .string (⟨#[]⟩ : ByteArray), .int .i64 0]) ?_ 1 _ rfl; (with_reducible repeat (first | refine blk_drewN ?_ _ | refine blk_drew ?_ | refine blk_alloc ?_ _)); refine blk_put (cs := #[.string (⟨#[]⟩ : ByteArray), .string (⟨#[]⟩ : ByteArray), .int .i64 0]) ?_ 0 _ rfl; (with_reducible repeat (first | refine blk_drewN ?_ _ | refine blk_drew ?_ | refine blk_alloc ?_ _)); exact BK294.out) k_ hk⟩)); (case aO => exact (by (with_reducible repeat (first | apply Kd.R_alloc | apply Kd.R_drewN | apply Kd.R_drew)); exact Kd.R_mono (Kd.R_far (p := ⟨gb289, 2, none⟩) (Kd.R_far (p := ⟨gb294, 2, none⟩) (Kd.R_far (p := ⟨gb294, 1, none⟩) (Kd.R_far (p := ⟨gb294, 0, none⟩) (Kd.R_mono (Kd.R_mono HO_8.out (fun k_ hk => (⟨hk, hk.2⟩ : _ ∧ k_ ≠ gb294))) (fun k_ hk => (⟨hk, hk.1.1.2⟩ : _ ∧ k_ ≠ gb289))) (fun _ hk => hk.1.2) (.string t290)) (fun _ hk => hk.1.2) (.string t291)) (fun _ hk => hk.1.2) (.int .i64 t292)) (fun _ hk => hk.2) (.int .i64 x9_1)) (fun _ hk => ⟨hk.1.1.1.2, hk.1.1.2⟩))); (case aS => exact (below_size (by repeat (first | (with_reducible first | exact HB.out | apply below_alloc | apply pw_below_drewN | apply below_drew1 | refine below_set ?_ GE289.out | refine below_set ?_ GE294.out) | exact HB.out)))); (case aL => have := LMc32.out; omega); intro v296 w43 ho hb hg hat; rw [← Ny295.out] at ho; have n0_ := Aside0.mk (Kd.R_over' (by (with_reducible repeat (first | apply Kd.R_alloc | apply Kd.R_drewN | apply Kd.R_drew)); exact (Kd.R_mono (Kd.R_mono (Kd.R_far (p := ⟨gb289, 2, none⟩) (Kd.R_far (p := ⟨gb294, 2, none⟩) (Kd.R_far (p := ⟨gb294, 1, none⟩) (Kd.R_far (p := ⟨gb294, 0, none⟩) (Kd.R_types (Kd.R_types HO_5.out BK294.out (by decide)) BK289.out (by decide)) (fun _ hk => hk.1.2) (.string t290)) (fun _ hk => hk.1.2) (.string t291)) (fun _ hk => hk.1.2) (.int .i64 t292)) (fun _ hk => hk.2) (.int .i64 x9_1)) (fun _ h_ => h_.1)) (fun _ h_ => h_.1))) (Kd.R_typed (by (with_reducible repeat (first | apply Kd.R_alloc | apply Kd.R_drewN | apply Kd.R_drew)); exact (Kd.R_mono (Kd.R_mono (Kd.R_far (p := ⟨gb289, 2, none⟩) (Kd.R_far (p := ⟨gb294, 2, none⟩) (Kd.R_far (p := ⟨gb294, 1, none⟩) (Kd.R_far (p := ⟨gb294, 0, none⟩) (Kd.R_mono (Kd.R_mono HO_8.out (fun k_ hk => (⟨hk, hk.2⟩ : _ ∧ k_ ≠ gb294))) (fun k_ hk => (⟨hk, hk.1.1.2⟩ : _ ∧ k_ ≠ gb289))) (fun _ hk => hk.1.2) (.string t290)) (fun _ hk => hk.1.2) (.string t291)) (fun _ hk => hk.1.2) (.int .i64 t292)) (fun _ hk => hk.2) (.int .i64 x9_1)) (fun _ h_ => h_.1)) (fun _ h_ => h_.1)))) (by decide) hg); have n1_ := Aside0.mk (Kd.S_after (ok := (fun k_ => k_ ≠ gb289 ∧ k_ ≠ gb294)) (by (with_reducible repeat (first | apply Kd.S_alloc | apply Kd.S_drewN | apply Kd.S_drew)); exact Kd.S_mono (Kd.S_far (p := ⟨gb289, 2, none⟩) (Kd.S_far (p := ⟨gb294, 2, none⟩) (Kd.S_far (p := ⟨gb294, 1, none⟩) (Kd.S_far (p := ⟨gb294, 0, none⟩) (Kd.S_mono (Kd.S_mono HO_7.out (fun k_ hk => (⟨hk, hk.2⟩ : _ ∧ k_ ≠ gb294))) (fun k_ hk => (⟨hk, hk.1.1.2⟩ : _ ∧ k_ ≠ gb289))) (fun _ hk => hk.1.2) (.string t290)) (fun _ hk => hk.1.2) (.string t291)) (fun _ hk => hk.1.2) (.int .i64 t292)) (fun _ hk => hk.2) (.int .i64 x9_1)) (fun _ hk => ⟨⟨hk.1.1.1.2, hk.1.1.2⟩, hk.1.1.1.1⟩)) hg hat); have n2_ := Aside0.mk (blk_grown (g := gb289) (o := .cells #[.string t285, .string t286, .int .i64 x9_1] 46 (0, 0)) (by (with_reducible repeat (first | refine blk_drewN ?_ _ | refine blk_drew ?_ | refine blk_alloc ?_ _)); refine blk_put (cs := #[.string t285, .string t286, .int .i64 t287]) ?_ 2 _ rfl; (with_reducible repeat (first | refine blk_drewN ?_ _ | refine blk_drew ?_ | refine blk_alloc ?_ _)); refine blk_far ?_ NB289_294.out _; (with_reducible repeat (first | refine blk_drewN ?_ _ | refine blk_drew ?_ | refine blk_alloc ?_ _)); refine blk_far ?_ NB289_294.out _; (with_reducible repeat (first | refine blk_drewN ?_ _ | refine blk_drew ?_ | refine blk_alloc ?_ _)); refine blk_far ?_ NB289_294.out _; (with_reducible repeat (first | refine blk_drewN ?_ _ | refine blk_drew ?_ | refine blk_alloc ?_ _)); exact BK289.out) hg (Kd.R_away HO_8.out (fun _ hk => hk.1.2))); have n3_ := Aside0.mk (blk_grown (g := gb294) (o := .cells #[.string t290, .string t291, .int .i64 t292] 46 (0, 0)) (by (with_reducible repeat (first | refine blk_drewN ?_ _ | refine blk_drew ?_ | refine blk_alloc ?_ _)); refine blk_far ?_ NB294_289.out _; (with_reducible repeat (first | refine blk_drewN ?_ _ | refine blk_drew ?_ | refine blk_alloc ?_ _)); refine blk_put (cs := #[.string t290, .string t291, .int .i64 0]) ?_ 2 _ rfl; (with_reducible repeat (first | refine blk_drewN ?_ _ | refine blk_drew ?_ | refine blk_alloc ?_ _)); refine blk_put (cs := #[.string t290, .string (⟨#[]⟩ : ByteArray), .int .i64 0]) ?_ 1 _ rfl; (with_reducible repeat (first | refine blk_drewN ?_ _ | refine blk_drew ?_ | refine blk_alloc ?_ _)); refine blk_put (cs := #[.string (⟨#[]⟩ : ByteArray), .string (⟨#[]⟩ : ByteArray), .int .i64 0]) ?_ 0 _ rfl; (with_reducible repeat (first | refine blk_drewN ?_ _ | refine blk_drew ?_ | refine blk_alloc ?_ _)); exact BK294.out) hg (Kd.R_away HO_8.out (fun _ hk => hk.2))); have n4_ := Aside0.mk (hb); have n5_ := Aside0.mk (ho); clear HO_5; clear HO_7; clear BK289; clear BK294; clear HB; clear HO_8; have HO_5 := n0_; have HO_7 := n1_; have BK289 := n2_; have BK294 := n3_; have HB := n4_; have HO297 := n5_; clear n0_ n1_ n2_ n3_ n4_ n5_; clear ho hb hg hat))
                      go_roundg k1
                      case measure => have := HK1.out; omega
                      case rel => exact ⟨(x7_1), (y295), (wrap64 (x9_1 + 1)), (by first | rfl | (simp; done) | (simp [*]; done)), H', ⟨by have := HK1.out; omega⟩, ⟨by (with_reducible repeat (first | apply Kd.R_alloc | apply Kd.R_drewN | apply Kd.R_drew)); exact HO_5.out⟩, ⟨by (with_reducible repeat (first | apply Kd.S_alloc | apply Kd.S_drewN | apply Kd.S_drew)); exact Kd.S_mono HO_7.out (fun _ hk => hk.2)⟩, ⟨by (with_reducible repeat (first | apply Kd.R_alloc | apply Kd.R_drewN | apply Kd.R_drew)); exact Kd.R_mono HO297.out (fun _ hk => trivial)⟩, ⟨by repeat (first | (with_reducible first | exact HB.out | apply below_alloc | apply pw_below_drewN | apply below_drew1 | refine below_set ?_ GE289.out | refine below_set ?_ GE294.out) | exact HB.out)⟩⟩
                    · rw [if_neg c32] at H
                      exact absurd H (by simp)
                · replace c20 := Bool.eq_false_iff.mpr c20
                  subst c20
                  have H1 : (some (([] : List (List (S46))), x9_1, 2)) = some (r1, r2, r3) := by rw [if_neg (show ¬ (false = true) by decide)] at H; exact H
                  clear H
                  have H := H1
                  clear H1
                  simp only [Option.some.injEq, Prod.mk.injEq] at H
                  obtain ⟨rfl, rfl, rfl⟩ := H
                  obtain ⟨Ao44, co44, eo44⟩ := Kd.R_slice HO_5.out
                  subst eo44
                  have p280 : 0 ≤ (x9_1 : Int) := of_decide_eq_true (by first | (with_reducible assumption) | assumption)
                  have q280 : x9_1 < (t273.length : Int) := of_decide_eq_true (by first | (with_reducible assumption) | assumption)
                  obtain ⟨ad280, e280, hx280_0⟩ := Kd.at_string (Kd.R_reads' HO_5.out).2.2 x9_1 p280 q280
                  cases e280
                  replace p280 := eq_true p280
                  replace q280 := eq_true q280
                  have p284 : 0 ≤ (x9_1 : Int) := of_decide_eq_true (by first | (with_reducible assumption) | assumption)
                  have q284 : x9_1 < (t273.length : Int) := of_decide_eq_true (by first | (with_reducible assumption) | assumption)
                  obtain ⟨ad284, e284, hx284_0⟩ := Kd.at_string (Kd.R_reads' HO_5.out).2.2 x9_1 p284 q284
                  obtain rfl : ad280 = ad284 := (by injection e284)
                  replace p284 := eq_true p284
                  replace q284 := eq_true q284
                  go_wp2_with (first | ((with_reducible refine gate_callee (f := 25) rfl ?_); refine goesL_ (some 55) rfl rfl Tryd.func25 (by kernel_rfl) rfl #[.string (rdOf ByteArray.empty t273 x9_1)] rfl (by (try simp only [List.map_toArray, List.map_cons, List.map_nil]); first | done | rfl | (simp only [List.length_drop, List.length_take]; rfl)) ?_; (with_reducible refine (mancipleref9_field.calls k1 (rdOf ByteArray.empty t273 x9_1) t285 t286 t287 false _ A19.out).mono ?_); rintro e w45 ⟨rfl, hb⟩; refine ⟨_, rfl, ?_⟩; have n0_ := Aside0.mk (Kd.R_below (by (with_reducible repeat (first | apply Kd.R_alloc | apply Kd.R_drewN | apply Kd.R_drew)); exact HO_5.out) hb); have n1_ := Aside0.mk (Kd.S_below (by (with_reducible repeat (first | apply Kd.S_alloc | apply Kd.S_drewN | apply Kd.S_drew)); exact HO_7.out) hb); have n2_ := Aside0.mk (Kd.R_below (by (with_reducible repeat (first | apply Kd.R_alloc | apply Kd.R_drewN | apply Kd.R_drew)); exact HO_8.out) hb); have n3_ := Aside0.mk (below_step (by repeat (first | (with_reducible first | exact HB.out | apply below_alloc | apply pw_below_drewN | apply below_drew1) | exact HB.out)) hb); clear HO_5; clear HO_7; clear HO_8; clear HB; have HO_5 := n0_; have HO_7 := n1_; have HO_8 := n2_; have HB := n3_; clear n0_ n1_ n2_ n3_; (try clear hb); (try clear hb2); (try clear hk); (try clear hi)) | ((with_reducible refine gate_dst (N := 10) rfl ?_); (try (refine gate_guard (by rfl) ?_; dsimp only)); refine box_event ?hg (N := 10) ?hd (cs := #[.string (⟨#[]⟩ : ByteArray), .string (⟨#[]⟩ : ByteArray), .int .i64 0]) (t := 46) ?hr ?_; (case hd => rfl); (case hg => rfl); (case hr => first | (go_simp; done) | (go_simp; rfl)); intro gb289 hg w46 hbox hb; have n0_ := Aside0.mk (Kd.R_below (by (with_reducible repeat (first | apply Kd.R_alloc | apply Kd.R_drewN | apply Kd.R_drew)); exact HO_5.out) hb); have n1_ := Aside0.mk (Kd.S_below (Kd.S_elderB (by (with_reducible repeat (first | apply Kd.S_alloc | apply Kd.S_drewN | apply Kd.S_drew)); exact HO_7.out) gb289 (Nat.le_of_eq hg.symm)) hb); have n2_ := Aside0.mk (Kd.R_below (Kd.R_elderB (by (with_reducible repeat (first | apply Kd.R_alloc | apply Kd.R_drewN | apply Kd.R_drew)); exact HO_8.out) gb289 (Nat.le_of_eq hg.symm)) hb); have n3_ := Aside0.mk (below_step (by repeat (first | (with_reducible first | exact HB.out | apply below_alloc | apply pw_below_drewN | apply below_drew1) | exact HB.out)) hb); have n4_ := Aside0.mk (hbox); have n5_ := Aside0.mk ((by rw [hg]; exact (below_size (by repeat (first | (with_reducible first | exact HB.out | apply below_alloc | apply pw_below_drewN | apply below_drew1) | exact HB.out))) : w.heap.size ≤ gb289)); have n6_ := Aside0.mk ((by rw [hg]; exact (below_size (by repeat (first | (with_reducible first | exact HB.out | apply below_alloc | apply pw_below_drewN | apply below_drew1) | exact HB.out))) : w.heap.size ≤ gb289)); clear HO_5; clear HO_7; clear HO_8; clear HB; have HO_5 := n0_; have HO_7 := n1_; have HO_8 := n2_; have HB := n3_; have BK289 := n4_; have GW289 := n5_; have GE289 := n6_; clear n0_ n1_ n2_ n3_ n4_ n5_ n6_; clear hb hbox hg; have hcz47_0 : w46.cell? ⟨gb289, 0, none⟩ = some (.string (⟨#[]⟩ : ByteArray)) := (blk_cell BK289.out 0).trans rfl; have hcz47_1 : w46.cell? ⟨gb289, 1, none⟩ = some (.string (⟨#[]⟩ : ByteArray)) := (blk_cell BK289.out 1).trans rfl; have hcz47_2 : w46.cell? ⟨gb289, 2, none⟩ = some (.int .i64 0) := (blk_cell BK289.out 2).trans rfl; have hfz47_0 := blk_frozen BK289.out 0; have hfz47_1 := blk_frozen BK289.out 1; have hfz47_2 := blk_frozen BK289.out 2))
                  go_ret3
                  exact ⟨_, by first | rfl | (simp [errW_none, errW_some] <;> rfl) | (simp [*, errW_none, errW_some] <;> rfl), by first | exact Kd.S_nil _ _ _ _ _ | exact Kd.N_nil _ _ _ _ _ | exact Kd.V_nil _ _ _ _ _ | exact Kd.Q_nil _ _ _ _ _ | exact Kd.R_nil _ _ _ _ _, by repeat (first | (with_reducible first | exact HB.out | apply below_alloc | apply pw_below_drewN | apply below_drew1 | refine below_set ?_ GE289.out) | exact HB.out)⟩
            · rw [if_neg c7] at H
              exact absurd H (by simp)
          · rw [if_neg c6] at H
            have c6b0 : decide (x9_1 < (t273.length : Int)) = false := decide_eq_false c6
            clear c6
            by_cases c48 : (x8_1.length : Int) > 0
            · rw [if_pos c48] at H
              have c48b0 : decide (0 < (x8_1.length : Int)) = true := decide_eq_true c48
              have c48b1 : decide (0 < x8_1.length) = true := decide_eq_true (by omega)
              clear c48
              by_cases c49 : x7_1.length < 5864062014805
              · rw [if_pos c49] at H
                have LMc49 := Aside0.mk c49
                clear c49
                obtain ⟨y277, hy277⟩ : ∃ y_ : List (List (S46)), y_ = (x7_1 ++ [x8_1]) := ⟨_, rfl⟩
                replace H : (some (y277, 0, 0)) = some (r1, r2, r3) := by first | (rw [hy277]; with_reducible exact H) | (have H2_ := (Option.bind_some _ _).symm.trans H; rw [hy277]; with_reducible exact H2_) | (have H2_ := (Option.bind_some _ _).symm.trans H; with_reducible exact H2_) | with_reducible exact H | (rw [hy277]; exact H) | exact H
                have Ny277 := Aside0.mk hy277
                clear hy277
                simp only [Option.some.injEq, Prod.mk.injEq] at H
                obtain ⟨rfl, rfl, rfl⟩ := H
                obtain ⟨Ao50, co50, eo50⟩ := Kd.R_slice HO_5.out
                subst eo50
                obtain ⟨Ao51, co51, eo51⟩ := Kd.R_slice HO_8.out
                subst eo51
                go_wp2_with (first | ((with_reducible refine gate_builtin (b := .append) (xs := #[.tmp 79, .tmp 81]) rfl ?_); (try (refine gate_guard (by rfl) ?_; dsimp only)); at_builtin; refine Kd.S_append (Kd.slice 46 k46) (w0 := w) w.heap.size rfl (.tmp 79) (.tmp 81) 27 33 (.slice none 0 0) 24 rfl Tryd.underlying27 info33 rfl (by decide) (by omega) u7 x7_1 x8_1 [.slice Ao51 x8_1.length co51] (fun _ => True) (fun k_ => some k_ = (.slice Ao51 x8_1.length co51 : Value).ownBlock) rfl rfl ?aP (fun k_ hk_ => ((Kd.R_mono (ok' := fun k_ => ((fun _ => True)) k_ ∧ some k_ ≠ (u7 : Value).ownBlock) (Kd.R_apart' (HO_8.out) (Kd.S_typed HO_7.out) (by decide)) (fun k_ hk => ⟨trivial, hk.2⟩))).1 k_ hk_.symm) ?aF ?aO ?aB ?aS ?aL ?_; (case aP => exact Kd.M_row (Kd.R_mono (Kd.R_tight rfl (Kd.R_mono (ok' := fun k_ => ((fun _ => True)) k_ ∧ some k_ ≠ (u7 : Value).ownBlock) (Kd.R_apart' (HO_8.out) (Kd.S_typed HO_7.out) (by decide)) (fun k_ hk => ⟨trivial, hk.2⟩))) (fun _ h_ => h_))); (case aB => exact (by repeat (first | (with_reducible first | exact HB.out | apply below_alloc | apply pw_below_drewN | apply below_drew1) | exact HB.out))); (case aF => exact (fun _ _ => trivial)); (case aO => exact (by (with_reducible repeat (first | apply Kd.S_alloc | apply Kd.S_drewN | apply Kd.S_drew)); exact Kd.S_mono HO_7.out (fun k_ hk => ⟨trivial, fun e_ => hk e_⟩))); (case aS => exact (below_size (by repeat (first | (with_reducible first | exact HB.out | apply below_alloc | apply pw_below_drewN | apply below_drew1) | exact HB.out)))); (case aL => have := LMc49.out; omega); intro v278 w52 ho hb hg hat; rw [← Ny277.out] at ho; have n0_ := Aside0.mk (Kd.R_over' (by (with_reducible repeat (first | apply Kd.R_alloc | apply Kd.R_drewN | apply Kd.R_drew)); exact HO_5.out) (Kd.S_typed (by (with_reducible repeat (first | apply Kd.S_alloc | apply Kd.S_drewN | apply Kd.S_drew)); exact HO_7.out)) (by decide) hg); have n1_ := Aside0.mk (hb); have n2_ := Aside0.mk (ho); clear HO_5; clear HB; clear HO_7; clear HO_8; have HO_5 := n0_; have HB := n1_; have HO279 := n2_; clear n0_ n1_ n2_; clear ho hb hg hat))
                go_ret3
                exact ⟨_, by first | rfl | (simp [errW_none, errW_some] <;> rfl) | (simp [*, errW_none, errW_some] <;> rfl), by (with_reducible repeat (first | apply Kd.S_alloc | apply Kd.S_drewN | apply Kd.S_drew)); exact HO279.out, by repeat (first | (with_reducible first | exact HB.out | apply below_alloc | apply pw_below_drewN | apply below_drew1) | exact HB.out)⟩
              · rw [if_neg c49] at H
                exact absurd H (by simp)
            · rw [if_neg c48] at H
              have c48b0 : decide (0 < (x8_1.length : Int)) = false := decide_eq_false c48
              have c48b1 : decide (0 < x8_1.length) = false := decide_eq_false (by omega)
              clear c48
              simp only [Option.some.injEq, Prod.mk.injEq] at H
              obtain ⟨rfl, rfl, rfl⟩ := H
              obtain ⟨Ao53, co53, eo53⟩ := Kd.R_slice HO_5.out
              subst eo53
              obtain ⟨Ao54, co54, eo54⟩ := Kd.R_slice HO_8.out
              subst eo54
              go_wp2
              go_ret3
              exact ⟨_, by first | rfl | (simp [errW_none, errW_some] <;> rfl) | (simp [*, errW_none, errW_some] <;> rfl), by (with_reducible repeat (first | apply Kd.S_alloc | apply Kd.S_drewN | apply Kd.S_drew)); exact Kd.S_mono HO_7.out (fun _ hk => trivial), by repeat (first | (with_reducible first | exact HB.out | apply below_alloc | apply pw_below_drewN | apply below_drew1) | exact HB.out)⟩
    · replace c4 := Bool.eq_false_iff.mpr c4
      subst c4
      have H1 : (some (([] : List (List (S46))), 0, 2)) = some (r1, r2, r3) := by rw [if_neg (show ¬ (false = true) by decide)] at H; exact H
      clear H
      have H := H1
      clear H1
      simp only [Option.some.injEq, Prod.mk.injEq] at H
      obtain ⟨rfl, rfl, rfl⟩ := H
      go_enter Tryd.func9, Tryd.ntmps9
      go_wp2_with (first | ((with_reducible refine gate_callee (f := 24) rfl ?_); refine goesL_ (some 19) rfl rfl Tryd.func24 (by kernel_rfl) rfl #[.string a0] rfl (by (try simp only [List.map_toArray, List.map_cons, List.map_nil]); first | done | rfl | (simp only [List.length_drop, List.length_take]; rfl)) ?_; (with_reducible refine (mancipleref9_Rows.calls k a0 t273 false _ A3.out).mono ?_); rintro e w55 ⟨v275, rfl, ho0, hb⟩; refine ⟨_, rfl, ?_⟩; have n0_ := Aside0.mk (Kd.R_lower ho0 (below_size (by repeat (first | (with_reducible first | exact HB.out | apply below_alloc | apply pw_below_drewN | apply below_drew1) | exact HB.out)))); have n1_ := Aside0.mk (below_step (by repeat (first | (with_reducible first | exact HB.out | apply below_alloc | apply pw_below_drewN | apply below_drew1) | exact HB.out)) hb); clear HB; have HO276 := n0_; have HB := n1_; clear n0_ n1_; (try clear hb); (try clear hb2); (try clear hk); (try clear hi); (try clear ho0)))
      go_ret3
      exact ⟨_, by first | rfl | (simp [errW_none, errW_some] <;> rfl) | (simp [*, errW_none, errW_some] <;> rfl), by first | exact Kd.S_nil _ _ _ _ _ | exact Kd.N_nil _ _ _ _ _ | exact Kd.V_nil _ _ _ _ _ | exact Kd.Q_nil _ _ _ _ _ | exact Kd.R_nil _ _ _ _ _, by repeat (first | (with_reducible first | exact HB.out | apply below_alloc | apply pw_below_drewN | apply below_drew1) | exact HB.out)⟩
end Go.Proofs.YtmgeokfknehonaaDoor.Q
namespace Go.Proofs.YtmgeokfknehonaaDoor.Q
open Go.RowKit Go.Proofs.YtmgeokfknehonaaDoorW.PrintWords Go.Proofs.YtmgeokfknehonaaDoorW.PrintLast Go.Proofs.YtmgeokfknehonaaDoorW.PrintMore
attribute [local go_sem] max2_int min2_int max_two min_two max_three min_three max_four min_four   -- for this text's walks alone
set_option linter.unusedVariables false
set_option linter.unusedSimpArgs false
/-! ### mancipleref9_Decimal: function 17 -/
def mancipleref9_Decimal.l0 : Nat → Int → ByteArray → Option (ByteArray)
  | 0, _, _ => none
  | k + 1, x0, x3 => if x0 ≥ 10 then ((some (([(IntKind.u64.wrap (48 + (Int.tmod (IntKind.u64.wrap (Int.tdiv x0 10)) 10))) % 256] : List Int) : List Int)).bind fun y343 => (if (strOfNums y343).size + x3.size ≤ 9223372036854775807 then (mancipleref9_Decimal.l0 k (IntKind.u64.wrap (Int.tdiv x0 10)) ((strOfNums y343) ++ x3)) else (none))) else (some x3)
def mancipleref9_Decimal.f (k : Nat) (a0 : Int) : Option (ByteArray) := mancipleref9_Decimal.l0 k a0 (strOfNums (([(IntKind.u64.wrap (48 + (Int.tmod a0 10))) % 256] : List Int)))
theorem mancipleref9_Decimal.mono_l : ∀ k, (∀ y0 y1, LeO (mancipleref9_Decimal.l0 k y0 y1) (mancipleref9_Decimal.l0 (k + 1) y0 y1))
  | 0 => fun _ _ r h => by simp [mancipleref9_Decimal.l0] at h
  | k + 1 => by
    have ih0 := mancipleref9_Decimal.mono_l k
    · intro y0 y1
      unfold mancipleref9_Decimal.l0
      repeat' first
      | (with_reducible exact ih0 _ _)
      | (with_reducible exact LeO.refl _)
      | (with_reducible exact LeO.none _)
      | (with_reducible refine LeO.ite ?_ ?_)
      | (with_reducible refine LeO.bind ?_ (fun _ => ?_))
      | exact ih0 _ _
      | exact LeO.none _
      | refine LeO.ite ?_ ?_
      | refine LeO.bind ?_ (fun _ => ?_)
theorem mancipleref9_Decimal.mono : ∀ a0 k, LeO (mancipleref9_Decimal.f k a0) (mancipleref9_Decimal.f (k + 1) a0) := by
  intro a0 k
  have ih0 := mancipleref9_Decimal.mono_l k
  unfold mancipleref9_Decimal.f
  repeat' first
      | (with_reducible exact ih0 _ _)
      | (with_reducible exact LeO.refl _)
      | (with_reducible exact LeO.none _)
      | (with_reducible refine LeO.ite ?_ ?_)
      | (with_reducible refine LeO.bind ?_ (fun _ => ?_))
      | exact ih0 _ _
      | exact LeO.none _
      | refine LeO.ite ?_ ?_
      | refine LeO.bind ?_ (fun _ => ?_)
set_option maxHeartbeats 8000000 in
set_option maxRecDepth 100000 in
theorem mancipleref9_Decimal.calls (k : Nat) (a0 : Int) (r : ByteArray) (w : World) (h : mancipleref9_Decimal.f k a0 = some r) :
    Calls Tryd.prog 17 #[.int .u64 a0] w fun e w' => e = .returned (.string r) ∧ Below w.heap.size w w' := by
  have HB := Aside0.mk (Below.refl w.heap.size w)
  have H : (mancipleref9_Decimal.l0 k a0 (strOfNums (([(IntKind.u64.wrap (48 + (Int.tmod a0 10))) % 256] : List Int)))) = some r := h
  clear h
  obtain ⟨y340, hy340⟩ : ∃ y_ : List Int, y_ = (([(IntKind.u64.wrap (48 + (Int.tmod a0 10))) % 256] : List Int)) := ⟨_, rfl⟩
  replace H : (mancipleref9_Decimal.l0 k a0 (strOfNums y340)) = some r := by first | (rw [hy340]; with_reducible exact H) | (have H2_ := (Option.bind_some _ _).symm.trans H; rw [hy340]; with_reducible exact H2_) | (have H2_ := (Option.bind_some _ _).symm.trans H; with_reducible exact H2_) | with_reducible exact H | (rw [hy340]; exact H) | exact H
  have Ny340 := Aside0.mk hy340
  clear hy340
  have H' := Aside0.mk H
  clear H
  go_enter Tryd.func17, Tryd.ntmps17
  go_wp2_with (first | ((with_reducible refine gate_dst (N := 8) rfl ?_); refine Kd.R_lit (Kd.int .u8) _ 5 ?hg (N := 8) ?hd (xs := ([(IntKind.u64.wrap (48 + (Int.tmod a0 10))) % 256] : List Int)) (inner := [.int .u8 ((IntKind.u64.wrap (48 + (Int.tmod a0 10))) % 256)]) (ok := fun _ => True) (okp := fun _ => True) ?hr ?hp (fun _ hk => hk) trivial (Below.refl _ _) (Nat.le_refl _) (by simp) ?_; (case hd => rfl); (case hg => rfl); (case hr => first | (go_simp; done) | (go_simp; rfl)); (case hp => exact (Reps.one (show Kd.M (Kd.int .u8) _ _ _ ((IntKind.u64.wrap (48 + (Int.tmod a0 10))) % 256) [.int .u8 ((IntKind.u64.wrap (48 + (Int.tmod a0 10))) % 256)] from rfl) (Reps.none _ _))); intro v341 w2 ho3 hb hg_ hnew_; clear hg_ hnew_; (first | rw [← Ny340.out] at ho3 | (simp only [Int.reduceToNat] at ho3; rw [← Ny340.out] at ho3)); have n0_ := Aside0.mk (Kd.R_lower ho3 (below_size (by repeat (first | (with_reducible first | exact HB.out | apply below_alloc | apply pw_below_drewN | apply below_drew1) | exact HB.out)))); have n1_ := Aside0.mk (below_step (by repeat (first | (with_reducible first | exact HB.out | apply below_alloc | apply pw_below_drewN | apply below_drew1) | exact HB.out)) hb); clear HB; have HO342 := n0_; have HB := n1_; clear n0_ n1_; clear hb ho3; have hcv4 := own_string (P := Tryd.prog) Tryd.underlying50 Tryd.underlying5 Tryd.underlying9 (Kd.own_of_R HO342.out)))
  go_loopg [0, 3] k (fun kq v0 v3 w' => ∃ (x0_1 : Int) (x3_1 : ByteArray), v0 = .int .u64 x0_1 ∧ v3 = .string x3_1 ∧ Aside0 (mancipleref9_Decimal.l0 kq x0_1 x3_1 = some r) ∧ Aside0 (kq ≤ k) ∧ Aside0 (Below w.heap.size w w'))
  case atStart => exact ⟨(a0), (strOfNums y340), (by first | rfl | (simp; done) | (simp [*]; done)), (by first | rfl | (simp; done) | (simp [*]; done)), H', ⟨Nat.le_refl _⟩, ⟨by repeat (first | (with_reducible first | exact HB.out | apply below_alloc | apply pw_below_drewN | apply below_drew1) | exact HB.out)⟩⟩
  case round =>
    clear H'
    try clear c1
    try clear p2
    try clear hcv4
    obtain ⟨x0_1, x3_1, rfl, rfl, HA, HK1, HB⟩ := hrel
    cases gk with
    | zero => exact absurd HA.out (by simp [mancipleref9_Decimal.l0])
    | succ k1 =>
      have H := HA.out
      clear HA
      simp only [mancipleref9_Decimal.l0] at H
      by_cases c5 : x0_1 ≥ 10
      · rw [if_pos c5] at H
        have c5b0 : decide (10 ≤ x0_1) = true := decide_eq_true c5
        clear c5
        obtain ⟨y343, hy343⟩ : ∃ y_ : List Int, y_ = (([(IntKind.u64.wrap (48 + (Int.tmod (IntKind.u64.wrap (Int.tdiv x0_1 10)) 10))) % 256] : List Int)) := ⟨_, rfl⟩
        replace H : (if (strOfNums y343).size + x3_1.size ≤ 9223372036854775807 then (mancipleref9_Decimal.l0 k1 (IntKind.u64.wrap (Int.tdiv x0_1 10)) ((strOfNums y343) ++ x3_1)) else (none)) = some r := by first | (rw [hy343]; with_reducible exact H) | (have H2_ := (Option.bind_some _ _).symm.trans H; rw [hy343]; with_reducible exact H2_) | (have H2_ := (Option.bind_some _ _).symm.trans H; with_reducible exact H2_) | with_reducible exact H | (rw [hy343]; exact H) | exact H
        have Ny343 := Aside0.mk hy343
        clear hy343
        by_cases c6 : (strOfNums y343).size + x3_1.size ≤ 9223372036854775807
        · rw [if_pos c6] at H
          have c6b0 := eq_true c6
          have c6b1 : decide ((strOfNums y343).size + x3_1.size ≤ 9223372036854775807) = true := decide_eq_true c6
          try have c6b2 : (9223372036854775807 < (strOfNums y343).size + x3_1.size) = False := eq_false (Nat.not_lt.2 c6)
          obtain ⟨y346, hy346⟩ : ∃ y_ : ByteArray, y_ = ((strOfNums y343) ++ x3_1) := ⟨_, rfl⟩
          replace H : (mancipleref9_Decimal.l0 k1 (IntKind.u64.wrap (Int.tdiv x0_1 10)) y346) = some r := by first | (rw [hy346]; with_reducible exact H) | (have H2_ := (Option.bind_some _ _).symm.trans H; rw [hy346]; with_reducible exact H2_) | (have H2_ := (Option.bind_some _ _).symm.trans H; with_reducible exact H2_) | with_reducible exact H | (rw [hy346]; exact H) | exact H
          have Ny346 := Aside0.mk hy346
          clear hy346
          have Ey346 : (strOfNums y343) ++ x3_1 = y346 := Ny346.out.symm
          have H' := Aside0.mk H
          clear H
          go_wp2_with (first | ((with_reducible refine gate_dst (N := 18) rfl ?_); refine Kd.R_lit (Kd.int .u8) _ 5 ?hg (N := 18) ?hd (xs := ([(IntKind.u64.wrap (48 + (Int.tmod (IntKind.u64.wrap (Int.tdiv x0_1 10)) 10))) % 256] : List Int)) (inner := [.int .u8 ((IntKind.u64.wrap (48 + (Int.tmod (IntKind.u64.wrap (Int.tdiv x0_1 10)) 10))) % 256)]) (ok := fun _ => True) (okp := fun _ => True) ?hr ?hp (fun _ hk => hk) trivial (Below.refl _ _) (Nat.le_refl _) (by simp) ?_; (case hd => rfl); (case hg => rfl); (case hr => first | (go_simp; done) | (go_simp; rfl)); (case hp => exact (Reps.one (show Kd.M (Kd.int .u8) _ _ _ ((IntKind.u64.wrap (48 + (Int.tmod (IntKind.u64.wrap (Int.tdiv x0_1 10)) 10))) % 256) [.int .u8 ((IntKind.u64.wrap (48 + (Int.tmod (IntKind.u64.wrap (Int.tdiv x0_1 10)) 10))) % 256)] from rfl) (Reps.none _ _))); intro v344 w7 ho8 hb hg_ hnew_; clear hg_ hnew_; (first | rw [← Ny343.out] at ho8 | (simp only [Int.reduceToNat] at ho8; rw [← Ny343.out] at ho8)); have n0_ := Aside0.mk (Kd.R_lower ho8 (below_size (by repeat (first | (with_reducible first | exact HB.out | apply below_alloc | apply pw_below_drewN | apply below_drew1) | exact HB.out)))); have n1_ := Aside0.mk (below_step (by repeat (first | (with_reducible first | exact HB.out | apply below_alloc | apply pw_below_drewN | apply below_drew1) | exact HB.out)) hb); clear HB; have HO345 := n0_; have HB := n1_; clear n0_ n1_; clear hb ho8; have hcv9 := own_string (P := Tryd.prog) Tryd.underlying50 Tryd.underlying5 Tryd.underlying9 (Kd.own_of_R HO345.out)))
          go_roundg k1
          case measure => have := HK1.out; omega
          case rel => exact ⟨(IntKind.u64.wrap (Int.tdiv x0_1 10)), (y346), (by first | rfl | (simp; done) | (simp [*]; done)), (by first | rfl | (simp; done) | (simp [*]; done)), H', ⟨by have := HK1.out; omega⟩, ⟨by repeat (first | (with_reducible first | exact HB.out | apply below_alloc | apply pw_below_drewN | apply below_drew1) | exact HB.out)⟩⟩
        · rw [if_neg c6] at H
          exact absurd H (by simp)
      · rw [if_neg c5] at H
        have c5b0 : decide (10 ≤ x0_1) = false := decide_eq_false c5
        clear c5
        obtain rfl := Option.some.inj H
        go_wp2
        go_ret
        exact ⟨by first | rfl | (simp [errW_none, errW_some] <;> rfl) | (simp [*, errW_none, errW_some] <;> rfl), by repeat (first | (with_reducible first | exact HB.out | apply below_alloc | apply pw_below_drewN | apply below_drew1) | exact HB.out)⟩
end Go.Proofs.YtmgeokfknehonaaDoor.Q
namespace Go.Proofs.YtmgeokfknehonaaDoor.Q
open Go.RowKit Go.Proofs.YtmgeokfknehonaaDoorW.PrintWords Go.Proofs.YtmgeokfknehonaaDoorW.PrintLast Go.Proofs.YtmgeokfknehonaaDoorW.PrintMore
attribute [local go_sem] max2_int min2_int max_two min_two max_three min_three max_four min_four   -- for this text's walks alone
set_option linter.unusedVariables false
set_option linter.unusedSimpArgs false
/-! ### manciplelaw5_StanzaLines: function 5 -/
mutual
def manciplelaw5_StanzaLines.l0 : Nat → List Int → Int → ByteArray → Int → List (List (S46)) → Int → Option (Bool)
  | 0, _, _, _, _, _, _ => none
  | k + 1, x0, x1, x5, x6, x7, x8 => if x8 < (x0.length : Int) then (if x8 > 0 then (if x5.size + 1 ≤ 9223372036854775807 then (manciplelaw5_StanzaLines.j1 k x0 x1 (x5 ++ (⟨#[10]⟩ : ByteArray)) (wrap64 (x6 + 1)) x7 x8) else (none)) else (manciplelaw5_StanzaLines.j1 k x0 x1 x5 x6 x7 x8)) else ((stanza_Parse.f k x5).bind fun bt366 => (if bt366.2.2 = 0 then ((manciplelaw5_same.f k bt366.1 x7).bind fun t371 => (if t371 = true then ((stanza_Print.f bt366.1).bind fun t372 => (manciplelaw5_StanzaLines.j3 k x0 x1 x5 x6 (t372.toList != x5.toList))) else (manciplelaw5_StanzaLines.j3 k x0 x1 x5 x6 true))) else (manciplelaw5_StanzaLines.j3 k x0 x1 x5 x6 true)))
def manciplelaw5_StanzaLines.j1 : Nat → List Int → Int → ByteArray → Int → List (List (S46)) → Int → Option (Bool)
  | 0, _, _, _, _, _, _ => none
  | k + 1, x0, x1, x5, x6, x7, x8 => manciplelaw5_StanzaLines.l1 k x0 x1 x5 x6 x7 x8 ([] : List (S46)) 0
def manciplelaw5_StanzaLines.l1 : Nat → List Int → Int → ByteArray → Int → List (List (S46)) → Int → List (S46) → Int → Option (Bool)
  | 0, _, _, _, _, _, _, _, _ => none
  | k + 1, x0, x1, x5, x6, x7, x8, x9, x10 => if 0 ≤ x8 then (if x8 < (x0.length : Int) then (if x10 ≤ (wrap64 (Int.tmod (rd x0 x8) 9)) then ((some (([75, (wrap64 (97 + x10)) % 256] : List Int) : List Int)).bind fun y350 => (if x5.size + (strOfNums y350).size ≤ 9223372036854775807 then ((some (x5 ++ (strOfNums y350) : ByteArray)).bind fun y353 => (if y353.size + 3 ≤ 9223372036854775807 then ((some (y353 ++ (⟨#[58, 32, 118]⟩ : ByteArray) : ByteArray)).bind fun y354 => ((mancipleref9_Decimal.f k (IntKind.u64.wrap (x6))).bind fun t355 => (if y354.size + t355.size ≤ 9223372036854775807 then ((some (y354 ++ t355 : ByteArray)).bind fun y356 => (if y356.size + 1 ≤ 9223372036854775807 then ((mancipleref9_Decimal.f k (IntKind.u64.wrap (x6))).bind fun t358 => (if 1 + t358.size ≤ 9223372036854775807 then (if x9.length < 3518437208883 then (manciplelaw5_StanzaLines.l1 k x0 x1 (y356 ++ (⟨#[10]⟩ : ByteArray)) (wrap64 (x6 + 1)) x7 x8 (x9 ++ [(⟨strOfNums y350, ((⟨#[118]⟩ : ByteArray) ++ t358), x6⟩ : S46)]) (wrap64 (x10 + 1))) else (none)) else (none))) else (none))) else (none)))) else (none))) else (none))) else (if x7.length < 5864062014805 then (manciplelaw5_StanzaLines.l0 k x0 x1 x5 x6 (x7 ++ [x9]) (wrap64 (x8 + 1))) else (none))) else (none)) else (none)
def manciplelaw5_StanzaLines.j3 : Nat → List Int → Int → ByteArray → Int → Bool → Option (Bool)
  | 0, _, _, _, _, _ => none
  | k + 1, x0, x1, x5, x6, x95 => if x95 = true then (some false) else (if (x0.length : Int) = 0 then (some true) else (if 0 ≤ (wrap64 ((x0.length : Int) - 1)) then (if (wrap64 ((x0.length : Int) - 1)) < (x0.length : Int) then (if (wrap64 ((wrap64 (Int.tmod (rd x0 (wrap64 ((x0.length : Int) - 1))) 9)) + 1)) = 0 then (none) else ((some (([75, (wrap64 (97 + (Int.tmod (wrap64 (x1)) (wrap64 ((wrap64 (Int.tmod (rd x0 (wrap64 ((x0.length : Int) - 1))) 9)) + 1))))) % 256] : List Int) : List Int)).bind fun y374 => (if x5.size + (strOfNums y374).size ≤ 9223372036854775807 then ((some (x5 ++ (strOfNums y374) : ByteArray)).bind fun y377 => (if y377.size + 4 ≤ 9223372036854775807 then ((stanza_Parse.f k (y377 ++ (⟨#[58, 32, 120, 10]⟩ : ByteArray))).bind fun bt379 => (if bt379.2.2 = 6 then (some (bt379.2.1 == x6)) else (some false))) else (none))) else (none)))) else (none)) else (none)))
end
def manciplelaw5_StanzaLines.f (k : Nat) (l0 : List Int) (a1 : Int) : Option (Bool) := (manciplelaw5_known.f k).bind fun t347 => (if t347 = true then (if (l0.length : Int) > 20 then (some true) else (manciplelaw5_StanzaLines.l0 k l0 a1 (⟨#[]⟩ : ByteArray) 0 ([] : List (List (S46))) 0)) else (some false))
theorem manciplelaw5_StanzaLines.mono_l : ∀ k, (∀ y0 y1 y2 y3 y4 y5, LeO (manciplelaw5_StanzaLines.l0 k y0 y1 y2 y3 y4 y5) (manciplelaw5_StanzaLines.l0 (k + 1) y0 y1 y2 y3 y4 y5)) ∧ (∀ y0 y1 y2 y3 y4 y5, LeO (manciplelaw5_StanzaLines.j1 k y0 y1 y2 y3 y4 y5) (manciplelaw5_StanzaLines.j1 (k + 1) y0 y1 y2 y3 y4 y5)) ∧ (∀ y0 y1 y2 y3 y4 y5 y6 y7, LeO (manciplelaw5_StanzaLines.l1 k y0 y1 y2 y3 y4 y5 y6 y7) (manciplelaw5_StanzaLines.l1 (k + 1) y0 y1 y2 y3 y4 y5 y6 y7)) ∧ (∀ y0 y1 y2 y3 y4, LeO (manciplelaw5_StanzaLines.j3 k y0 y1 y2 y3 y4) (manciplelaw5_StanzaLines.j3 (k + 1) y0 y1 y2 y3 y4))
  | 0 => ⟨fun _ _ _ _ _ _ r h => by simp [manciplelaw5_StanzaLines.l0] at h, fun _ _ _ _ _ _ r h => by simp [manciplelaw5_StanzaLines.j1] at h, fun _ _ _ _ _ _ _ _ r h => by simp [manciplelaw5_StanzaLines.l1] at h, fun _ _ _ _ _ r h => by simp [manciplelaw5_StanzaLines.j3] at h⟩
  | k + 1 => by
    obtain ⟨ih0, ih1, ih2, ih3⟩ := manciplelaw5_StanzaLines.mono_l k
    refine ⟨?_, ?_, ?_, ?_⟩
    · intro y0 y1 y2 y3 y4 y5
      unfold manciplelaw5_StanzaLines.l0
      repeat' first
      | (with_reducible exact ih0 _ _ _ _ _ _)
      | (with_reducible exact ih1 _ _ _ _ _ _)
      | (with_reducible exact ih2 _ _ _ _ _ _ _ _)
      | (with_reducible exact ih3 _ _ _ _ _)
      | (with_reducible exact manciplelaw5_known.mono _)
      | (with_reducible exact manciplelaw5_same.mono _ _ _)
      | (with_reducible exact mancipleref9_Decimal.mono _ _)
      | (with_reducible exact stanza_Parse.mono _ _)
      | (with_reducible exact LeO.refl _)
      | (with_reducible exact LeO.none _)
      | (with_reducible refine LeO.ite ?_ ?_)
      | (with_reducible refine LeO.bind ?_ (fun _ => ?_))
      | exact ih0 _ _ _ _ _ _
      | exact ih1 _ _ _ _ _ _
      | exact ih2 _ _ _ _ _ _ _ _
      | exact ih3 _ _ _ _ _
      | exact manciplelaw5_known.mono _
      | exact manciplelaw5_same.mono _ _ _
      | exact mancipleref9_Decimal.mono _ _
      | exact stanza_Parse.mono _ _
      | exact LeO.none _
      | refine LeO.ite ?_ ?_
      | refine LeO.bind ?_ (fun _ => ?_)
    · intro y0 y1 y2 y3 y4 y5
      unfold manciplelaw5_StanzaLines.j1
      repeat' first
      | (with_reducible exact ih0 _ _ _ _ _ _)
      | (with_reducible exact ih1 _ _ _ _ _ _)
      | (with_reducible exact ih2 _ _ _ _ _ _ _ _)
      | (with_reducible exact ih3 _ _ _ _ _)
      | (with_reducible exact manciplelaw5_known.mono _)
      | (with_reducible exact manciplelaw5_same.mono _ _ _)
      | (with_reducible exact mancipleref9_Decimal.mono _ _)
      | (with_reducible exact stanza_Parse.mono _ _)
      | (with_reducible exact LeO.refl _)
      | (with_reducible exact LeO.none _)
      | (with_reducible refine LeO.ite ?_ ?_)
      | (with_reducible refine LeO.bind ?_ (fun _ => ?_))
      | exact ih0 _ _ _ _ _ _
      | exact ih1 _ _ _ _ _ _
      | exact ih2 _ _ _ _ _ _ _ _
      | exact ih3 _ _ _ _ _
      | exact manciplelaw5_known.mono _
      | exact manciplelaw5_same.mono _ _ _
      | exact mancipleref9_Decimal.mono _ _
      | exact stanza_Parse.mono _ _
      | exact LeO.none _
      | refine LeO.ite ?_ ?_
      | refine LeO.bind ?_ (fun _ => ?_)
    · intro y0 y1 y2 y3 y4 y5 y6 y7
      unfold manciplelaw5_StanzaLines.l1
      repeat' first
      | (with_reducible exact ih0 _ _ _ _ _ _)
      | (with_reducible exact ih1 _ _ _ _ _ _)
      | (with_reducible exact ih2 _ _ _ _ _ _ _ _)
      | (with_reducible exact ih3 _ _ _ _ _)
      | (with_reducible exact manciplelaw5_known.mono _)
      | (with_reducible exact manciplelaw5_same.mono _ _ _)
      | (with_reducible exact mancipleref9_Decimal.mono _ _)
      | (with_reducible exact stanza_Parse.mono _ _)
      | (with_reducible exact LeO.refl _)
      | (with_reducible exact LeO.none _)
      | (with_reducible refine LeO.ite ?_ ?_)
      | (with_reducible refine LeO.bind ?_ (fun _ => ?_))
      | exact ih0 _ _ _ _ _ _
      | exact ih1 _ _ _ _ _ _
      | exact ih2 _ _ _ _ _ _ _ _
      | exact ih3 _ _ _ _ _
      | exact manciplelaw5_known.mono _
      | exact manciplelaw5_same.mono _ _ _
      | exact mancipleref9_Decimal.mono _ _
      | exact stanza_Parse.mono _ _
      | exact LeO.none _
      | refine LeO.ite ?_ ?_
      | refine LeO.bind ?_ (fun _ => ?_)
    · intro y0 y1 y2 y3 y4
      unfold manciplelaw5_StanzaLines.j3
      repeat' first
      | (with_reducible exact ih0 _ _ _ _ _ _)
      | (with_reducible exact ih1 _ _ _ _ _ _)
      | (with_reducible exact ih2 _ _ _ _ _ _ _ _)
      | (with_reducible exact ih3 _ _ _ _ _)
      | (with_reducible exact manciplelaw5_known.mono _)
      | (with_reducible exact manciplelaw5_same.mono _ _ _)
      | (with_reducible exact mancipleref9_Decimal.mono _ _)
      | (with_reducible exact stanza_Parse.mono _ _)
      | (with_reducible exact LeO.refl _)
      | (with_reducible exact LeO.none _)
      | (with_reducible refine LeO.ite ?_ ?_)
      | (with_reducible refine LeO.bind ?_ (fun _ => ?_))
      | exact ih0 _ _ _ _ _ _
      | exact ih1 _ _ _ _ _ _
      | exact ih2 _ _ _ _ _ _ _ _
      | exact ih3 _ _ _ _ _
      | exact manciplelaw5_known.mono _
      | exact manciplelaw5_same.mono _ _ _
      | exact mancipleref9_Decimal.mono _ _
      | exact stanza_Parse.mono _ _
      | exact LeO.none _
      | refine LeO.ite ?_ ?_
      | refine LeO.bind ?_ (fun _ => ?_)
theorem manciplelaw5_StanzaLines.mono : ∀ a0 a1 k, LeO (manciplelaw5_StanzaLines.f k a0 a1) (manciplelaw5_StanzaLines.f (k + 1) a0 a1) := by
  intro a0 a1 k
  obtain ⟨ih0, ih1, ih2, ih3⟩ := manciplelaw5_StanzaLines.mono_l k
  unfold manciplelaw5_StanzaLines.f
  repeat' first
      | (with_reducible exact ih0 _ _ _ _ _ _)
      | (with_reducible exact ih1 _ _ _ _ _ _)
      | (with_reducible exact ih2 _ _ _ _ _ _ _ _)
      | (with_reducible exact ih3 _ _ _ _ _)
      | (with_reducible exact manciplelaw5_known.mono _)
      | (with_reducible exact manciplelaw5_same.mono _ _ _)
      | (with_reducible exact mancipleref9_Decimal.mono _ _)
      | (with_reducible exact stanza_Parse.mono _ _)
      | (with_reducible exact LeO.refl _)
      | (with_reducible exact LeO.none _)
      | (with_reducible refine LeO.ite ?_ ?_)
      | (with_reducible refine LeO.bind ?_ (fun _ => ?_))
      | exact ih0 _ _ _ _ _ _
      | exact ih1 _ _ _ _ _ _
      | exact ih2 _ _ _ _ _ _ _ _
      | exact ih3 _ _ _ _ _
      | exact manciplelaw5_known.mono _
      | exact manciplelaw5_same.mono _ _ _
      | exact mancipleref9_Decimal.mono _ _
      | exact stanza_Parse.mono _ _
      | exact LeO.none _
      | refine LeO.ite ?_ ?_
      | refine LeO.bind ?_ (fun _ => ?_)
set_option maxHeartbeats 8000000 in
set_option maxRecDepth 100000 in
theorem manciplelaw5_StanzaLines.calls (k : Nat) (A0 : Option Addr) (c0 : Nat) (l0 : List Int) (a1 : Int) (r : Bool) (w : World) (hr0 : Kd.C (Kd.int .u8) w A0 l0.length l0) (hc0 : l0.length ≤ c0) (hG : Glob w) (h : manciplelaw5_StanzaLines.f k l0 a1 = some r) :
    Calls Tryd.prog 5 #[.slice A0 l0.length c0, .int .u8 a1] w fun e w' => e = .returned (.bool r) ∧ Below w.heap.size w w' := by
  have hu46 := Tryd.underlying46
  have HR0 := Aside0.mk hr0
  have HC0 := Aside0.mk hc0
  clear hr0 hc0
  have HB := Aside0.mk (Below.refl w.heap.size w)
  have HG := Aside0.mk hG
  clear hG
  have H : ((manciplelaw5_known.f k).bind fun t347 => (if t347 = true then (if (l0.length : Int) > 20 then (some true) else (manciplelaw5_StanzaLines.l0 k l0 a1 (⟨#[]⟩ : ByteArray) 0 ([] : List (List (S46))) 0)) else (some false))) = some r := h
  clear h
  replace H := Option.bind_eq_some_iff.mp H
  obtain ⟨t347, A30, H⟩ := H
  replace H : (if t347 = true then (if (l0.length : Int) > 20 then (some true) else (manciplelaw5_StanzaLines.l0 k l0 a1 (⟨#[]⟩ : ByteArray) 0 ([] : List (List (S46))) 0)) else (some false)) = some r := H
  have A3 := Aside0.mk A30
  clear A30
  by_cases c4 : t347 = true
  · subst c4
    have H1 : (if (l0.length : Int) > 20 then (some true) else (manciplelaw5_StanzaLines.l0 k l0 a1 (⟨#[]⟩ : ByteArray) 0 ([] : List (List (S46))) 0)) = some r := by rw [if_pos rfl] at H; exact H
    clear H
    have H := H1
    clear H1
    by_cases c5 : (l0.length : Int) > 20
    · rw [if_pos c5] at H
      have c5b0 : decide (20 < (l0.length : Int)) = true := decide_eq_true c5
      have c5b1 : decide (20 < l0.length) = true := decide_eq_true (by omega)
      clear c5
      obtain rfl := Option.some.inj H
      go_enter Tryd.func5, Tryd.ntmps5
      go_wp2_with (first | ((with_reducible refine gate_callee (f := 7) rfl ?_); refine goesL_ (some 19) rfl rfl Tryd.func7 (by kernel_rfl) rfl #[] rfl (by (try simp only [List.map_toArray, List.map_cons, List.map_nil]); first | done | rfl | (simp only [List.length_drop, List.length_take]; rfl)) ?_; (with_reducible refine (manciplelaw5_known.calls k  true _ (Glob.below HG.out (by repeat (first | (with_reducible first | exact HB.out | apply below_alloc | apply pw_below_drewN | apply below_drew1) | exact HB.out))) A3.out).mono ?_); rintro e w6 ⟨rfl, hb⟩; refine ⟨_, rfl, ?_⟩; have n0_ := Aside0.mk (below_step (by repeat (first | (with_reducible first | exact HB.out | apply below_alloc | apply pw_below_drewN | apply below_drew1) | exact HB.out)) hb); clear HB; have HB := n0_; clear n0_; (try clear hb); (try clear hb2); (try clear hk); (try clear hi)))
      go_ret
      exact ⟨by first | rfl | (simp [errW_none, errW_some] <;> rfl) | (simp [*, errW_none, errW_some] <;> rfl), by repeat (first | (with_reducible first | exact HB.out | apply below_alloc | apply pw_below_drewN | apply below_drew1) | exact HB.out)⟩
    · rw [if_neg c5] at H
      have c5b0 : decide (20 < (l0.length : Int)) = false := decide_eq_false c5
      have c5b1 : decide (20 < l0.length) = false := decide_eq_false (by omega)
      clear c5
      have H' := Aside0.mk H
      clear H
      go_enter Tryd.func5, Tryd.ntmps5
      go_wp2_with (first | ((with_reducible refine gate_callee (f := 7) rfl ?_); refine goesL_ (some 19) rfl rfl Tryd.func7 (by kernel_rfl) rfl #[] rfl (by (try simp only [List.map_toArray, List.map_cons, List.map_nil]); first | done | rfl | (simp only [List.length_drop, List.length_take]; rfl)) ?_; (with_reducible refine (manciplelaw5_known.calls k  true _ (Glob.below HG.out (by repeat (first | (with_reducible first | exact HB.out | apply below_alloc | apply pw_below_drewN | apply below_drew1) | exact HB.out))) A3.out).mono ?_); rintro e w7 ⟨rfl, hb⟩; refine ⟨_, rfl, ?_⟩; have n0_ := Aside0.mk (below_step (by repeat (first | (with_reducible first | exact HB.out | apply below_alloc | apply pw_below_drewN | apply below_drew1) | exact HB.out)) hb); clear HB; have HB := n0_; clear n0_; (try clear hb); (try clear hb2); (try clear hk); (try clear hi)))
      go_loopg [5, 6, 7, 8] k (fun kq v5 v6 v7 v8 w' => ∃ (x5_1 : ByteArray) (x6_1 : Int) (x7_1 : List (List (S46))) (x8_1 : Int), v5 = .string x5_1 ∧ v6 = .int .i64 x6_1 ∧ v8 = .int .i64 x8_1 ∧ Aside0 (manciplelaw5_StanzaLines.l0 kq l0 a1 x5_1 x6_1 x7_1 x8_1 = some r) ∧ Aside0 (kq ≤ k) ∧ Aside0 (Kd.S (Kd.slice 46 k46) 33 w' w.heap.size (fun _ => True) v7 x7_1) ∧ Aside0 (Below w.heap.size w w'))
      case atStart => exact ⟨((⟨#[]⟩ : ByteArray)), (0), (([] : List (List (S46)))), (0), (by first | rfl | (simp; done) | (simp [*]; done)), (by first | rfl | (simp; done) | (simp [*]; done)), (by first | rfl | (simp; done) | (simp [*]; done)), H', ⟨Nat.le_refl _⟩, ⟨by first | exact Kd.S_nil _ _ _ _ _ | exact Kd.N_nil _ _ _ _ _ | exact Kd.V_nil _ _ _ _ _ | exact Kd.Q_nil _ _ _ _ _ | exact Kd.R_nil _ _ _ _ _⟩, ⟨by repeat (first | (with_reducible first | exact HB.out | apply below_alloc | apply pw_below_drewN | apply below_drew1) | exact HB.out)⟩⟩
      case round =>
        clear H'
        try clear p2
        try clear c4
        try clear c5
        try clear c5b0
        try clear c5b1
        try clear c7
        obtain ⟨x5_1, x6_1, x7_1, x8_1, rfl, rfl, rfl, HA, HK1, HO_7, HB⟩ := hrel
        cases gk with
        | zero => exact absurd HA.out (by simp [manciplelaw5_StanzaLines.l0])
        | succ k1 =>
          have H := HA.out
          clear HA
          simp only [manciplelaw5_StanzaLines.l0] at H
          by_cases c8 : x8_1 < (l0.length : Int)
          · rw [if_pos c8] at H
            have c8b0 : decide (x8_1 < (l0.length : Int)) = true := decide_eq_true c8
            clear c8
            have HC9 := Aside0.mk H
            clear H
            go_upto_if 31 with (fail)
            go_cut [5, 6] (fun v5 v6 wc => ∃ (kq : Nat) (x5_8 : ByteArray) (x6_8 : Int), v5 = .string x5_8 ∧ v6 = .int .i64 x6_8 ∧ Aside0 (manciplelaw5_StanzaLines.j1 kq l0 a1 x5_8 x6_8 x7_1 x8_1 = some r) ∧ Aside0 (kq ≤ k1) ∧ Aside0 (Kd.S (Kd.slice 46 k46) 33 wc w.heap.size (fun _ => True) u7 x7_1) ∧ Aside0 (Below w.heap.size w wc))
            case first =>
              have H := HC9.out
              clear HC9
              by_cases c10 : x8_1 > 0
              · rw [if_pos c10] at H
                have c10b0 : decide (0 < x8_1) = true := decide_eq_true c10
                clear c10
                (first | rw [c10b0] | (simp only [i64_w, i32_w]; rw [c10b0]) | rw [c10b2] | skip)
                by_cases c11 : x5_1.size + 1 ≤ 9223372036854775807
                · rw [if_pos c11] at H
                  have c11b0 := eq_true c11
                  have c11b1 : decide (x5_1.size + 1 ≤ 9223372036854775807) = true := decide_eq_true c11
                  try have c11b2 : (9223372036854775807 < x5_1.size + 1) = False := eq_false (Nat.not_lt.2 c11)
                  obtain ⟨y348, hy348⟩ : ∃ y_ : ByteArray, y_ = (x5_1 ++ (⟨#[10]⟩ : ByteArray)) := ⟨_, rfl⟩
                  replace H : (manciplelaw5_StanzaLines.j1 k1 l0 a1 y348 (wrap64 (x6_1 + 1)) x7_1 x8_1) = some r := by first | (rw [hy348]; with_reducible exact H) | (have H2_ := (Option.bind_some _ _).symm.trans H; rw [hy348]; with_reducible exact H2_) | (have H2_ := (Option.bind_some _ _).symm.trans H; with_reducible exact H2_) | with_reducible exact H | (rw [hy348]; exact H) | exact H
                  have Ny348 := Aside0.mk hy348
                  clear hy348
                  have Ey348 : x5_1 ++ (⟨#[10]⟩ : ByteArray) = y348 := Ny348.out.symm
                  have H' := Aside0.mk H
                  clear H
                  go_wp2
                  go_meet
                  case rel => exact ⟨_, (y348), (wrap64 (x6_1 + 1)), (by first | rfl | (simp; done) | (simp [*]; done)), (by first | rfl | (simp; done) | (simp [*]; done)), H', ⟨by have := HK1.out; first | omega | exact Nat.le_refl _⟩, ⟨by (with_reducible repeat (first | apply Kd.S_alloc | apply Kd.S_drewN | apply Kd.S_drew)); exact HO_7.out⟩, ⟨by repeat (first | (with_reducible first | exact HB.out | apply below_alloc | apply pw_below_drewN | apply below_drew1) | exact HB.out)⟩⟩
                · rw [if_neg c11] at H
                  exact absurd H (by simp)
              · rw [if_neg c10] at H
                have c10b0 : decide (0 < x8_1) = false := decide_eq_false c10
                clear c10
                (first | rw [c10b0] | (simp only [i64_w, i32_w]; rw [c10b0]) | rw [c10b2] | skip)
                have H' := Aside0.mk H
                clear H
                go_wp2
                go_meet
                case rel => exact ⟨_, (x5_1), (x6_1), (by first | rfl | (simp; done) | (simp [*]; done)), (by first | rfl | (simp; done) | (simp [*]; done)), H', ⟨by have := HK1.out; first | omega | exact Nat.le_refl _⟩, ⟨by (with_reducible repeat (first | apply Kd.S_alloc | apply Kd.S_drewN | apply Kd.S_drew)); exact HO_7.out⟩, ⟨by repeat (first | (with_reducible first | exact HB.out | apply below_alloc | apply pw_below_drewN | apply below_drew1) | exact HB.out)⟩⟩
            case rest =>
              clear HC9
              try clear c1
              try clear p2
              try clear c4
              try clear c5
              try clear c5b0
              try clear c5b1
              try clear p6
              try clear c7
              try clear c8
              try clear c8b0
              try clear c10
              try clear c10b0
              try clear c10b2
              try clear c11
              try clear c11b0
              try clear c11b1
              try clear c11b2
              try clear p2
              obtain ⟨kq, x5_8, x6_8, rfl, rfl, HA, HJ8, HO_7, HB⟩ := hcut
              cases kq with
              | zero => exact absurd HA.out (by simp [manciplelaw5_StanzaLines.j1])
              | succ kj8 =>
                have H := HA.out
                clear HA
                simp only [manciplelaw5_StanzaLines.j1] at H
                have H' := Aside0.mk H
                clear H
                go_wp2
                go_loopg [5, 6, 9, 10] kj8 (fun kq v5 v6 v9 v10 w' => ∃ (x5_3 : ByteArray) (x6_3 : Int) (x9_3 : List (S46)) (x10_3 : Int), v5 = .string x5_3 ∧ v6 = .int .i64 x6_3 ∧ v10 = .int .i64 x10_3 ∧ Aside0 (manciplelaw5_StanzaLines.l1 kq l0 a1 x5_3 x6_3 x7_1 x8_1 x9_3 x10_3 = some r) ∧ Aside0 (kq ≤ kj8) ∧ Aside0 (Kd.S (Kd.slice 46 k46) 33 w' w.heap.size (fun k_ => some k_ ≠ (v9 : Value).ownBlock) u7 x7_1) ∧ Aside0 (Kd.R k46 46 w' w.heap.size (fun _ => True) v9 x9_3) ∧ Aside0 (Below w.heap.size w w'))
                case atStart => exact ⟨(x5_8), (x6_8), (([] : List (S46))), (0), (by first | rfl | (simp; done) | (simp [*]; done)), (by first | rfl | (simp; done) | (simp [*]; done)), (by first | rfl | (simp; done) | (simp [*]; done)), H', ⟨Nat.le_refl _⟩, ⟨by (with_reducible repeat (first | apply Kd.S_alloc | apply Kd.S_drewN | apply Kd.S_drew)); exact Kd.S_mono HO_7.out (fun _ hk => (by simp [Value.ownBlock]))⟩, ⟨by first | exact Kd.R_nil _ _ _ _ _ | exact Kd.N_nil _ _ _ _ _ | exact Kd.V_nil _ _ _ _ _ | exact Kd.Q_nil _ _ _ _ _ | exact Kd.S_nil _ _ _ _ _⟩, ⟨by repeat (first | (with_reducible first | exact HB.out | apply below_alloc | apply pw_below_drewN | apply below_drew1) | exact HB.out)⟩⟩
                case round =>
                  clear H'
                  try clear c1
                  try clear p2
                  try clear c4
                  try clear c5
                  try clear c5b0
                  try clear c5b1
                  try clear p6
                  try clear c7
                  try clear c8
                  try clear c8b0
                  try clear c10
                  try clear c10b0
                  try clear c10b2
                  try clear c11
                  try clear c11b0
                  try clear c11b1
                  try clear c11b2
                  try clear p2
                  try clear p6
                  obtain ⟨x5_3, x6_3, x9_3, x10_3, rfl, rfl, rfl, HA, HK3, HO_7, HO_9, HB⟩ := hrel
                  cases gk with
                  | zero => exact absurd HA.out (by simp [manciplelaw5_StanzaLines.l1])
                  | succ k3 =>
                    have H := HA.out
                    clear HA
                    simp only [manciplelaw5_StanzaLines.l1] at H
                    by_cases c12 : 0 ≤ x8_1
                    · rw [if_pos c12] at H
                      have c12b0 : decide (0 ≤ x8_1) = true := decide_eq_true c12
                      clear c12
                      by_cases c13 : x8_1 < (l0.length : Int)
                      · rw [if_pos c13] at H
                        have c13b0 : decide (x8_1 < (l0.length : Int)) = true := decide_eq_true c13
                        clear c13
                        by_cases c14 : x10_3 ≤ (wrap64 (Int.tmod (rd l0 x8_1) 9))
                        · rw [if_pos c14] at H
                          have c14b0 : decide (x10_3 ≤ (wrap64 (Int.tmod (rd l0 x8_1) 9))) = true := decide_eq_true c14
                          clear c14
                          obtain ⟨y350, hy350⟩ : ∃ y_ : List Int, y_ = (([75, (wrap64 (97 + x10_3)) % 256] : List Int)) := ⟨_, rfl⟩
                          replace H : (if x5_3.size + (strOfNums y350).size ≤ 9223372036854775807 then ((some (x5_3 ++ (strOfNums y350) : ByteArray)).bind fun y353 => (if y353.size + 3 ≤ 9223372036854775807 then ((some (y353 ++ (⟨#[58, 32, 118]⟩ : ByteArray) : ByteArray)).bind fun y354 => ((mancipleref9_Decimal.f k3 (IntKind.u64.wrap (x6_3))).bind fun t355 => (if y354.size + t355.size ≤ 9223372036854775807 then ((some (y354 ++ t355 : ByteArray)).bind fun y356 => (if y356.size + 1 ≤ 9223372036854775807 then ((mancipleref9_Decimal.f k3 (IntKind.u64.wrap (x6_3))).bind fun t358 => (if 1 + t358.size ≤ 9223372036854775807 then (if x9_3.length < 3518437208883 then (manciplelaw5_StanzaLines.l1 k3 l0 a1 (y356 ++ (⟨#[10]⟩ : ByteArray)) (wrap64 (x6_3 + 1)) x7_1 x8_1 (x9_3 ++ [(⟨strOfNums y350, ((⟨#[118]⟩ : ByteArray) ++ t358), x6_3⟩ : S46)]) (wrap64 (x10_3 + 1))) else (none)) else (none))) else (none))) else (none)))) else (none))) else (none)) = some r := by first | (rw [hy350]; with_reducible exact H) | (have H2_ := (Option.bind_some _ _).symm.trans H; rw [hy350]; with_reducible exact H2_) | (have H2_ := (Option.bind_some _ _).symm.trans H; with_reducible exact H2_) | with_reducible exact H | (rw [hy350]; exact H) | exact H
                          have Ny350 := Aside0.mk hy350
                          clear hy350
                          by_cases c15 : x5_3.size + (strOfNums y350).size ≤ 9223372036854775807
                          · rw [if_pos c15] at H
                            have c15b0 := eq_true c15
                            have c15b1 : decide (x5_3.size + (strOfNums y350).size ≤ 9223372036854775807) = true := decide_eq_true c15
                            try have c15b2 : (9223372036854775807 < x5_3.size + (strOfNums y350).size) = False := eq_false (Nat.not_lt.2 c15)
                            obtain ⟨y353, hy353⟩ : ∃ y_ : ByteArray, y_ = (x5_3 ++ (strOfNums y350)) := ⟨_, rfl⟩
                            replace H : (if y353.size + 3 ≤ 9223372036854775807 then ((some (y353 ++ (⟨#[58, 32, 118]⟩ : ByteArray) : ByteArray)).bind fun y354 => ((mancipleref9_Decimal.f k3 (IntKind.u64.wrap (x6_3))).bind fun t355 => (if y354.size + t355.size ≤ 9223372036854775807 then ((some (y354 ++ t355 : ByteArray)).bind fun y356 => (if y356.size + 1 ≤ 9223372036854775807 then ((mancipleref9_Decimal.f k3 (IntKind.u64.wrap (x6_3))).bind fun t358 => (if 1 + t358.size ≤ 9223372036854775807 then (if x9_3.length < 3518437208883 then (manciplelaw5_StanzaLines.l1 k3 l0 a1 (y356 ++ (⟨#[10]⟩ : ByteArray)) (wrap64 (x6_3 + 1)) x7_1 x8_1 (x9_3 ++ [(⟨strOfNums y350, ((⟨#[118]⟩ : ByteArray) ++ t358), x6_3⟩ : S46)]) (wrap64 (x10_3 + 1))) else (none)) else (none))) else (none))) else (none)))) else (none)) = some r := by first | (rw [hy353]; with_reducible exact H) | (have H2_ := (Option.bind_some _ _).symm.trans H; rw [hy353]; with_reducible exact H2_) | (have H2_ := (Option.bind_some _ _).symm.trans H; with_reducible exact H2_) | with_reducible exact H | (rw [hy353]; exact H) | exact H
                            have Ny353 := Aside0.mk hy353
                            clear hy353
                            have Ey353 : x5_3 ++ (strOfNums y350) = y353 := Ny353.out.symm
                            by_cases c16 : y353.size + 3 ≤ 9223372036854775807
                            · rw [if_pos c16] at H
                              have c16b0 := eq_true c16
                              have c16b1 : decide (y353.size + 3 ≤ 9223372036854775807) = true := decide_eq_true c16
                              try have c16b2 : (9223372036854775807 < y353.size + 3) = False := eq_false (Nat.not_lt.2 c16)
                              obtain ⟨y354, hy354⟩ : ∃ y_ : ByteArray, y_ = (y353 ++ (⟨#[58, 32, 118]⟩ : ByteArray)) := ⟨_, rfl⟩
                              replace H : ((mancipleref9_Decimal.f k3 (IntKind.u64.wrap (x6_3))).bind fun t355 => (if y354.size + t355.size ≤ 9223372036854775807 then ((some (y354 ++ t355 : ByteArray)).bind fun y356 => (if y356.size + 1 ≤ 9223372036854775807 then ((mancipleref9_Decimal.f k3 (IntKind.u64.wrap (x6_3))).bind fun t358 => (if 1 + t358.size ≤ 9223372036854775807 then (if x9_3.length < 3518437208883 then (manciplelaw5_StanzaLines.l1 k3 l0 a1 (y356 ++ (⟨#[10]⟩ : ByteArray)) (wrap64 (x6_3 + 1)) x7_1 x8_1 (x9_3 ++ [(⟨strOfNums y350, ((⟨#[118]⟩ : ByteArray) ++ t358), x6_3⟩ : S46)]) (wrap64 (x10_3 + 1))) else (none)) else (none))) else (none))) else (none))) = some r := by first | (rw [hy354]; with_reducible exact H) | (have H2_ := (Option.bind_some _ _).symm.trans H; rw [hy354]; with_reducible exact H2_) | (have H2_ := (Option.bind_some _ _).symm.trans H; with_reducible exact H2_) | with_reducible exact H | (rw [hy354]; exact H) | exact H
                              have Ny354 := Aside0.mk hy354
                              clear hy354
                              have Ey354 : y353 ++ (⟨#[58, 32, 118]⟩ : ByteArray) = y354 := Ny354.out.symm
                              replace H := Option.bind_eq_some_iff.mp H
                              obtain ⟨t355, A170, H⟩ := H
                              replace H : (if y354.size + t355.size ≤ 9223372036854775807 then ((some (y354 ++ t355 : ByteArray)).bind fun y356 => (if y356.size + 1 ≤ 9223372036854775807 then ((mancipleref9_Decimal.f k3 (IntKind.u64.wrap (x6_3))).bind fun t358 => (if 1 + t358.size ≤ 9223372036854775807 then (if x9_3.length < 3518437208883 then (manciplelaw5_StanzaLines.l1 k3 l0 a1 (y356 ++ (⟨#[10]⟩ : ByteArray)) (wrap64 (x6_3 + 1)) x7_1 x8_1 (x9_3 ++ [(⟨strOfNums y350, ((⟨#[118]⟩ : ByteArray) ++ t358), x6_3⟩ : S46)]) (wrap64 (x10_3 + 1))) else (none)) else (none))) else (none))) else (none)) = some r := H
                              have A17 := Aside0.mk A170
                              clear A170
                              by_cases c18 : y354.size + t355.size ≤ 9223372036854775807
                              · rw [if_pos c18] at H
                                have c18b0 := eq_true c18
                                have c18b1 : decide (y354.size + t355.size ≤ 9223372036854775807) = true := decide_eq_true c18
                                try have c18b2 : (9223372036854775807 < y354.size + t355.size) = False := eq_false (Nat.not_lt.2 c18)
                                obtain ⟨y356, hy356⟩ : ∃ y_ : ByteArray, y_ = (y354 ++ t355) := ⟨_, rfl⟩
                                replace H : (if y356.size + 1 ≤ 9223372036854775807 then ((mancipleref9_Decimal.f k3 (IntKind.u64.wrap (x6_3))).bind fun t358 => (if 1 + t358.size ≤ 9223372036854775807 then (if x9_3.length < 3518437208883 then (manciplelaw5_StanzaLines.l1 k3 l0 a1 (y356 ++ (⟨#[10]⟩ : ByteArray)) (wrap64 (x6_3 + 1)) x7_1 x8_1 (x9_3 ++ [(⟨strOfNums y350, ((⟨#[118]⟩ : ByteArray) ++ t358), x6_3⟩ : S46)]) (wrap64 (x10_3 + 1))) else (none)) else (none))) else (none)) = some r := by first | (rw [hy356]; with_reducible exact H) | (have H2_ := (Option.bind_some _ _).symm.trans H; rw [hy356]; with_reducible exact H2_) | (have H2_ := (Option.bind_some _ _).symm.trans H; with_reducible exact H2_) | with_reducible exact H | (rw [hy356]; exact H) | exact H
                                have Ny356 := Aside0.mk hy356
                                clear hy356
                                have Ey356 : y354 ++ t355 = y356 := Ny356.out.symm
                                by_cases c19 : y356.size + 1 ≤ 9223372036854775807
                                · rw [if_pos c19] at H
                                  have c19b0 := eq_true c19
                                  have c19b1 : decide (y356.size + 1 ≤ 9223372036854775807) = true := decide_eq_true c19
                                  try have c19b2 : (9223372036854775807 < y356.size + 1) = False := eq_false (Nat.not_lt.2 c19)
                                  obtain ⟨y357, hy357⟩ : ∃ y_ : ByteArray, y_ = (y356 ++ (⟨#[10]⟩ : ByteArray)) := ⟨_, rfl⟩
                                  replace H : ((mancipleref9_Decimal.f k3 (IntKind.u64.wrap (x6_3))).bind fun t358 => (if 1 + t358.size ≤ 9223372036854775807 then (if x9_3.length < 3518437208883 then (manciplelaw5_StanzaLines.l1 k3 l0 a1 y357 (wrap64 (x6_3 + 1)) x7_1 x8_1 (x9_3 ++ [(⟨strOfNums y350, ((⟨#[118]⟩ : ByteArray) ++ t358), x6_3⟩ : S46)]) (wrap64 (x10_3 + 1))) else (none)) else (none))) = some r := by first | (rw [hy357]; with_reducible exact H) | (have H2_ := (Option.bind_some _ _).symm.trans H; rw [hy357]; with_reducible exact H2_) | (have H2_ := (Option.bind_some _ _).symm.trans H; with_reducible exact H2_) | with_reducible exact H | (rw [hy357]; exact H) | exact H
                                  have Ny357 := Aside0.mk hy357
                                  clear hy357
                                  have Ey357 : y356 ++ (⟨#[10]⟩ : ByteArray) = y357 := Ny357.out.symm
                                  replace H := Option.bind_eq_some_iff.mp H
                                  obtain ⟨t358, A200, H⟩ := H
                                  replace H : (if 1 + t358.size ≤ 9223372036854775807 then (if x9_3.length < 3518437208883 then (manciplelaw5_StanzaLines.l1 k3 l0 a1 y357 (wrap64 (x6_3 + 1)) x7_1 x8_1 (x9_3 ++ [(⟨strOfNums y350, ((⟨#[118]⟩ : ByteArray) ++ t358), x6_3⟩ : S46)]) (wrap64 (x10_3 + 1))) else (none)) else (none)) = some r := H
                                  have A20 := Aside0.mk A200
                                  clear A200
                                  by_cases c21 : 1 + t358.size ≤ 9223372036854775807
                                  · rw [if_pos c21] at H
                                    have c21b0 := eq_true c21
                                    have c21b1 : decide (1 + t358.size ≤ 9223372036854775807) = true := decide_eq_true c21
                                    try have c21b2 : (9223372036854775807 < 1 + t358.size) = False := eq_false (Nat.not_lt.2 c21)
                                    obtain ⟨y359, hy359⟩ : ∃ y_ : ByteArray, y_ = ((⟨#[118]⟩ : ByteArray) ++ t358) := ⟨_, rfl⟩
                                    replace H : (if x9_3.length < 3518437208883 then (manciplelaw5_StanzaLines.l1 k3 l0 a1 y357 (wrap64 (x6_3 + 1)) x7_1 x8_1 (x9_3 ++ [(⟨strOfNums y350, y359, x6_3⟩ : S46)]) (wrap64 (x10_3 + 1))) else (none)) = some r := by first | (rw [hy359]; with_reducible exact H) | (have H2_ := (Option.bind_some _ _).symm.trans H; rw [hy359]; with_reducible exact H2_) | (have H2_ := (Option.bind_some _ _).symm.trans H; with_reducible exact H2_) | with_reducible exact H | (rw [hy359]; exact H) | exact H
                                    have Ny359 := Aside0.mk hy359
                                    clear hy359
                                    have Ey359 : (⟨#[118]⟩ : ByteArray) ++ t358 = y359 := Ny359.out.symm
                                    by_cases c22 : x9_3.length < 3518437208883
                                    · rw [if_pos c22] at H
                                      have LMc22 := Aside0.mk c22
                                      clear c22
                                      obtain ⟨y360, hy360⟩ : ∃ y_ : List (S46), y_ = (x9_3 ++ [(⟨strOfNums y350, y359, x6_3⟩ : S46)]) := ⟨_, rfl⟩
                                      replace H : (manciplelaw5_StanzaLines.l1 k3 l0 a1 y357 (wrap64 (x6_3 + 1)) x7_1 x8_1 y360 (wrap64 (x10_3 + 1))) = some r := by first | (rw [hy360]; with_reducible exact H) | (have H2_ := (Option.bind_some _ _).symm.trans H; rw [hy360]; with_reducible exact H2_) | (have H2_ := (Option.bind_some _ _).symm.trans H; with_reducible exact H2_) | with_reducible exact H | (rw [hy360]; exact H) | exact H
                                      have Ny360 := Aside0.mk hy360
                                      clear hy360
                                      have H' := Aside0.mk H
                                      clear H
                                      have p349 : 0 ≤ (x8_1 : Int) := of_decide_eq_true (by first | (with_reducible assumption) | assumption)
                                      have q349 : x8_1 < (l0.length : Int) := of_decide_eq_true (by first | (with_reducible assumption) | assumption)
                                      obtain ⟨ad349, e349, hx349_0⟩ := Kd.at_int HR0.out x8_1 p349 q349
                                      cases e349
                                      replace hx349_0 := (HB.out.cell (World.block_lt_of_cell? w _ hx349_0)).trans hx349_0
                                      replace p349 := eq_true p349
                                      replace q349 := eq_true q349
                                      go_wp2_with (first | ((with_reducible refine gate_dst (N := 49) rfl ?_); refine Kd.R_lit (Kd.int .u8) _ 5 ?hg (N := 49) ?hd (xs := ([75, (wrap64 (97 + x10_3)) % 256] : List Int)) (inner := [.int .u8 75, .int .u8 ((wrap64 (97 + x10_3)) % 256)]) (ok := fun _ => True) (okp := fun _ => True) ?hr ?hp (fun _ hk => hk) trivial (Below.refl _ _) (Nat.le_refl _) (by simp) ?_; (case hd => rfl); (case hg => rfl); (case hr => first | (go_simp; done) | (go_simp; rfl)); (case hp => exact (Reps.one (show Kd.M (Kd.int .u8) _ _ _ 75 [.int .u8 75] from rfl) (Reps.one (show Kd.M (Kd.int .u8) _ _ _ ((wrap64 (97 + x10_3)) % 256) [.int .u8 ((wrap64 (97 + x10_3)) % 256)] from rfl) (Reps.none _ _)))); intro v351 w23 ho24 hb hg_ hnew_; clear hg_ hnew_; (first | rw [← Ny350.out] at ho24 | (simp only [Int.reduceToNat] at ho24; rw [← Ny350.out] at ho24)); have n0_ := Aside0.mk (Kd.S_below (by (with_reducible repeat (first | apply Kd.S_alloc | apply Kd.S_drewN | apply Kd.S_drew)); exact HO_7.out) hb); have n1_ := Aside0.mk (Kd.R_below (by (with_reducible repeat (first | apply Kd.R_alloc | apply Kd.R_drewN | apply Kd.R_drew)); exact HO_9.out) hb); have n2_ := Aside0.mk (Kd.R_lower ho24 (below_size (by repeat (first | (with_reducible first | exact HB.out | apply below_alloc | apply pw_below_drewN | apply below_drew1) | exact HB.out)))); have n3_ := Aside0.mk (below_step (by repeat (first | (with_reducible first | exact HB.out | apply below_alloc | apply pw_below_drewN | apply below_drew1) | exact HB.out)) hb); clear HO_7; clear HO_9; clear HB; have HO_7 := n0_; have HO_9 := n1_; have HO352 := n2_; have HB := n3_; clear n0_ n1_ n2_ n3_; clear hb ho24; have hcv25 := own_string (P := Tryd.prog) Tryd.underlying50 Tryd.underlying5 Tryd.underlying9 (Kd.own_of_R HO352.out)) | ((with_reducible refine gate_callee (f := 17) rfl ?_); refine goesL_ (some 57) rfl rfl Tryd.func17 (by kernel_rfl) rfl #[.int .u64 (IntKind.u64.wrap (x6_3))] rfl (by (try simp only [List.map_toArray, List.map_cons, List.map_nil]); first | done | rfl | (simp only [List.length_drop, List.length_take]; rfl)) ?_; (with_reducible refine (mancipleref9_Decimal.calls k3 (IntKind.u64.wrap (x6_3)) t355 _ A17.out).mono ?_); rintro e w26 ⟨rfl, hb⟩; refine ⟨_, rfl, ?_⟩; have n0_ := Aside0.mk (Kd.S_below (by (with_reducible repeat (first | apply Kd.S_alloc | apply Kd.S_drewN | apply Kd.S_drew)); exact HO_7.out) hb); have n1_ := Aside0.mk (Kd.R_below (by (with_reducible repeat (first | apply Kd.R_alloc | apply Kd.R_drewN | apply Kd.R_drew)); exact HO_9.out) hb); have n2_ := Aside0.mk (Kd.R_below (by (with_reducible repeat (first | apply Kd.R_alloc | apply Kd.R_drewN | apply Kd.R_drew)); exact HO352.out) hb); have n3_ := Aside0.mk (below_step (by repeat (first | (with_reducible first | exact HB.out | apply below_alloc | apply pw_below_drewN | apply below_drew1) | exact HB.out)) hb); clear HO_7; clear HO_9; clear HO352; clear HB; have HO_7 := n0_; have HO_9 := n1_; have HO352 := n2_; have HB := n3_; clear n0_ n1_ n2_ n3_; (try clear hb); (try clear hb2); (try clear hk); (try clear hi)) | ((with_reducible refine gate_callee (f := 17) rfl ?_); refine goesL_ (some 64) rfl rfl Tryd.func17 (by kernel_rfl) rfl #[.int .u64 (IntKind.u64.wrap (x6_3))] rfl (by (try simp only [List.map_toArray, List.map_cons, List.map_nil]); first | done | rfl | (simp only [List.length_drop, List.length_take]; rfl)) ?_; (with_reducible refine (mancipleref9_Decimal.calls k3 (IntKind.u64.wrap (x6_3)) t358 _ A20.out).mono ?_); rintro e w27 ⟨rfl, hb⟩; refine ⟨_, rfl, ?_⟩; have n0_ := Aside0.mk (Kd.S_below (by (with_reducible repeat (first | apply Kd.S_alloc | apply Kd.S_drewN | apply Kd.S_drew)); exact HO_7.out) hb); have n1_ := Aside0.mk (Kd.R_below (by (with_reducible repeat (first | apply Kd.R_alloc | apply Kd.R_drewN | apply Kd.R_drew)); exact HO_9.out) hb); have n2_ := Aside0.mk (Kd.R_below (by (with_reducible repeat (first | apply Kd.R_alloc | apply Kd.R_drewN | apply Kd.R_drew)); exact HO352.out) hb); have n3_ := Aside0.mk (below_step (by repeat (first | (with_reducible first | exact HB.out | apply below_alloc | apply pw_below_drewN | apply below_drew1) | exact HB.out)) hb); clear HO_7; clear HO_9; clear HO352; clear HB; have HO_7 := n0_; have HO_9 := n1_; have HO352 := n2_; have HB := n3_; clear n0_ n1_ n2_ n3_; (try clear hb); (try clear hb2); (try clear hk); (try clear hi)) | ((with_reducible refine gate_builtin (b := .append) (xs := #[.tmp 60, .tmp 68]) rfl ?_); at_builtin; refine Kd.R_append k46 (w0 := w) w.heap.size rfl (.tmp 60) (.tmp 68) 33 46 (.agg #[(.string ⟨#[]⟩), (.string ⟨#[]⟩), (.int .i64 0)]) 40 rfl Tryd.underlying33 info46 rfl (by decide) (by omega) u9 x9_3 (⟨strOfNums y350, y359, x6_3⟩ : S46) [.string (strOfNums y350), .string y359, .int .i64 x6_3] (fun _ => True) (fun _ => False) rfl rfl ?aP (fun _ hk => hk.elim) ?aF ?aO ?aB ?aS ?aL ?_; (case aP => exact k46_mkM _ _ _ (⟨strOfNums y350, y359, x6_3⟩ : S46)); (case aB => exact (by repeat (first | (with_reducible first | exact HB.out | apply below_alloc | apply pw_below_drewN | apply below_drew1) | exact HB.out))); (case aF => exact (fun _ _ => trivial)); (case aO => exact (by (with_reducible repeat (first | apply Kd.R_alloc | apply Kd.R_drewN | apply Kd.R_drew)); exact HO_9.out)); (case aS => exact (below_size (by repeat (first | (with_reducible first | exact HB.out | apply below_alloc | apply pw_below_drewN | apply below_drew1) | exact HB.out)))); (case aL => have := LMc22.out; omega); intro v361 w28 ho hb hg hat; rw [← Ny360.out] at ho; have n0_ := Aside0.mk (Kd.S_after (ok := (fun _ => True)) (by (with_reducible repeat (first | apply Kd.S_alloc | apply Kd.S_drewN | apply Kd.S_drew)); exact Kd.S_mono HO_7.out (fun _ hk => ⟨trivial, hk⟩)) hg hat); have n1_ := Aside0.mk (Kd.R_over' (by (with_reducible repeat (first | apply Kd.R_alloc | apply Kd.R_drewN | apply Kd.R_drew)); exact HO352.out) (Kd.R_typed (by (with_reducible repeat (first | apply Kd.R_alloc | apply Kd.R_drewN | apply Kd.R_drew)); exact HO_9.out)) (by decide) hg); have n2_ := Aside0.mk (hb); have n3_ := Aside0.mk (ho); clear HO_7; clear HO352; clear HB; clear HO_9; have HO_7 := n0_; have HO352 := n1_; have HB := n2_; have HO362 := n3_; clear n0_ n1_ n2_ n3_; clear ho hb hg hat))
                                      go_roundg k3
                                      case measure => have := HK1.out; have := HJ8.out; have := HK3.out; omega
                                      case rel => exact ⟨(y357), (wrap64 (x6_3 + 1)), (y360), (wrap64 (x10_3 + 1)), (by first | rfl | (simp; done) | (simp [*]; done)), (by first | rfl | (simp; done) | (simp [*]; done)), (by first | rfl | (simp; done) | (simp [*]; done)), H', ⟨by have := HK1.out; have := HJ8.out; have := HK3.out; omega⟩, ⟨by (with_reducible repeat (first | apply Kd.S_alloc | apply Kd.S_drewN | apply Kd.S_drew)); exact Kd.S_mono HO_7.out (fun _ hk => hk.2)⟩, ⟨by (with_reducible repeat (first | apply Kd.R_alloc | apply Kd.R_drewN | apply Kd.R_drew)); exact HO362.out⟩, ⟨by repeat (first | (with_reducible first | exact HB.out | apply below_alloc | apply pw_below_drewN | apply below_drew1) | exact HB.out)⟩⟩
                                    · rw [if_neg c22] at H
                                      exact absurd H (by simp)
                                  · rw [if_neg c21] at H
                                    exact absurd H (by simp)
                                · rw [if_neg c19] at H
                                  exact absurd H (by simp)
                              · rw [if_neg c18] at H
                                exact absurd H (by simp)
                            · rw [if_neg c16] at H
                              exact absurd H (by simp)
                          · rw [if_neg c15] at H
                            exact absurd H (by simp)
                        · rw [if_neg c14] at H
                          have c14b0 : decide (x10_3 ≤ (wrap64 (Int.tmod (rd l0 x8_1) 9))) = false := decide_eq_false c14
                          clear c14
                          by_cases c29 : x7_1.length < 5864062014805
                          · rw [if_pos c29] at H
                            have LMc29 := Aside0.mk c29
                            clear c29
                            obtain ⟨y363, hy363⟩ : ∃ y_ : List (List (S46)), y_ = (x7_1 ++ [x9_3]) := ⟨_, rfl⟩
                            replace H : (manciplelaw5_StanzaLines.l0 k3 l0 a1 x5_3 x6_3 y363 (wrap64 (x8_1 + 1))) = some r := by first | (rw [hy363]; with_reducible exact H) | (have H2_ := (Option.bind_some _ _).symm.trans H; rw [hy363]; with_reducible exact H2_) | (have H2_ := (Option.bind_some _ _).symm.trans H; with_reducible exact H2_) | with_reducible exact H | (rw [hy363]; exact H) | exact H
                            have Ny363 := Aside0.mk hy363
                            clear hy363
                            have H' := Aside0.mk H
                            clear H
                            have p349 : 0 ≤ (x8_1 : Int) := of_decide_eq_true (by first | (with_reducible assumption) | assumption)
                            have q349 : x8_1 < (l0.length : Int) := of_decide_eq_true (by first | (with_reducible assumption) | assumption)
                            obtain ⟨ad349, e349, hx349_0⟩ := Kd.at_int HR0.out x8_1 p349 q349
                            cases e349
                            replace hx349_0 := (HB.out.cell (World.block_lt_of_cell? w _ hx349_0)).trans hx349_0
                            replace p349 := eq_true p349
                            replace q349 := eq_true q349
                            obtain ⟨Ao31, co31, eo31⟩ := Kd.R_slice HO_9.out
                            subst eo31
                            go_wp2_with (first | ((with_reducible refine gate_builtin (b := .append) (xs := #[.tmp 72, .tmp 74]) rfl ?_); at_builtin; refine Kd.S_append (Kd.slice 46 k46) (w0 := w) w.heap.size rfl (.tmp 72) (.tmp 74) 27 33 (.slice none 0 0) 24 rfl Tryd.underlying27 info33 rfl (by decide) (by omega) u7 x7_1 x9_3 [.slice Ao31 x9_3.length co31] (fun _ => True) (fun k_ => some k_ = (.slice Ao31 x9_3.length co31 : Value).ownBlock) rfl rfl ?aP (fun k_ hk_ => ((Kd.R_mono (ok' := fun k_ => ((fun _ => True)) k_ ∧ some k_ ≠ (u7 : Value).ownBlock) (Kd.R_apart' (HO_9.out) (Kd.S_typed HO_7.out) (by decide)) (fun k_ hk => ⟨trivial, hk.2⟩))).1 k_ hk_.symm) ?aF ?aO ?aB ?aS ?aL ?_; (case aP => exact Kd.M_row (Kd.R_mono (Kd.R_tight rfl (Kd.R_mono (ok' := fun k_ => ((fun _ => True)) k_ ∧ some k_ ≠ (u7 : Value).ownBlock) (Kd.R_apart' (HO_9.out) (Kd.S_typed HO_7.out) (by decide)) (fun k_ hk => ⟨trivial, hk.2⟩))) (fun _ h_ => h_))); (case aB => exact (by repeat (first | (with_reducible first | exact HB.out | apply below_alloc | apply pw_below_drewN | apply below_drew1) | exact HB.out))); (case aF => exact (fun _ _ => trivial)); (case aO => exact (by (with_reducible repeat (first | apply Kd.S_alloc | apply Kd.S_drewN | apply Kd.S_drew)); exact Kd.S_mono HO_7.out (fun k_ hk => ⟨trivial, fun e_ => hk e_⟩))); (case aS => exact (below_size (by repeat (first | (with_reducible first | exact HB.out | apply below_alloc | apply pw_below_drewN | apply below_drew1) | exact HB.out)))); (case aL => have := LMc29.out; omega); intro v364 w30 ho hb hg hat; rw [← Ny363.out] at ho; have n0_ := Aside0.mk (hb); have n1_ := Aside0.mk (ho); clear HB; clear HO_7; clear HO_9; have HB := n0_; have HO365 := n1_; clear n0_ n1_; clear ho hb hg hat))
                            go_roundg k3
                            case measure => have := HK1.out; have := HJ8.out; have := HK3.out; omega
                            case rel => exact ⟨(x5_3), (x6_3), (y363), (wrap64 (x8_1 + 1)), (by first | rfl | (simp; done) | (simp [*]; done)), (by first | rfl | (simp; done) | (simp [*]; done)), (by first | rfl | (simp; done) | (simp [*]; done)), H', ⟨by have := HK1.out; have := HJ8.out; have := HK3.out; omega⟩, ⟨by (with_reducible repeat (first | apply Kd.S_alloc | apply Kd.S_drewN | apply Kd.S_drew)); exact HO365.out⟩, ⟨by repeat (first | (with_reducible first | exact HB.out | apply below_alloc | apply pw_below_drewN | apply below_drew1) | exact HB.out)⟩⟩
                          · rw [if_neg c29] at H
                            exact absurd H (by simp)
                      · rw [if_neg c13] at H
                        exact absurd H (by simp)
                    · rw [if_neg c12] at H
                      exact absurd H (by simp)
          · rw [if_neg c8] at H
            have c8b0 : decide (x8_1 < (l0.length : Int)) = false := decide_eq_false c8
            clear c8
            replace H := Option.bind_eq_some_iff.mp H
            obtain ⟨⟨t366, t367, t368⟩, A320, H⟩ := H
            replace H : (if t368 = 0 then ((manciplelaw5_same.f k1 t366 x7_1).bind fun t371 => (if t371 = true then ((stanza_Print.f t366).bind fun t372 => (manciplelaw5_StanzaLines.j3 k1 l0 a1 x5_1 x6_1 (t372.toList != x5_1.toList))) else (manciplelaw5_StanzaLines.j3 k1 l0 a1 x5_1 x6_1 true))) else (manciplelaw5_StanzaLines.j3 k1 l0 a1 x5_1 x6_1 true)) = some r := H
            have A32 := Aside0.mk A320
            clear A320
            have HC33 := Aside0.mk H
            clear H
            go_upto_region 24 with (first | ((with_reducible refine gate_callee (f := 8) rfl ?_); refine goesL_ (some 78) rfl rfl Tryd.func8 (by kernel_rfl) rfl #[.string x5_1] rfl (by (try simp only [List.map_toArray, List.map_cons, List.map_nil]); first | done | rfl | (simp only [List.length_drop, List.length_take]; rfl)) ?_; (with_reducible refine (stanza_Parse.calls k1 x5_1 t366 t367 t368 _ (Glob.below HG.out (by repeat (first | (with_reducible first | exact HB.out | apply below_alloc | apply pw_below_drewN | apply below_drew1) | exact HB.out))) A32.out).mono ?_); rintro e w34 ⟨v369, rfl, ho0, hb⟩; refine ⟨_, rfl, ?_⟩; have n0_ := Aside0.mk (Kd.S_below (by (with_reducible repeat (first | apply Kd.S_alloc | apply Kd.S_drewN | apply Kd.S_drew)); exact HO_7.out) hb); have n1_ := Aside0.mk (Kd.S_lower ho0 (below_size (by repeat (first | (with_reducible first | exact HB.out | apply below_alloc | apply pw_below_drewN | apply below_drew1) | exact HB.out)))); have n2_ := Aside0.mk (below_step (by repeat (first | (with_reducible first | exact HB.out | apply below_alloc | apply pw_below_drewN | apply below_drew1) | exact HB.out)) hb); clear HO_7; clear HB; have HO_7 := n0_; have HO370 := n1_; have HB := n2_; clear n0_ n1_ n2_; (try clear hb); (try clear hb2); (try clear hk); (try clear hi); (try clear ho0)))
            (try simp only [Act.put, List.setIfInBounds_toArray, List.set_cons_zero, List.set_cons_succ])
            go_cut [95] (fun v95 wc => ∃ (kq : Nat) (x95_32 : Bool), v95 = .bool x95_32 ∧ Aside0 (manciplelaw5_StanzaLines.j3 kq l0 a1 x5_1 x6_1 x95_32 = some r) ∧ Aside0 (kq ≤ k1) ∧ Aside0 (Below w.heap.size w wc))
            case first =>
              have H := HC33.out
              clear HC33
              by_cases c35 : t368 = 0
              · rw [if_pos c35] at H
                have c35b0 : (t368 == 0) = true := beq_iff_eq.mpr c35
                have c35b1 : (t368 != 0) = false := bne_eq_false_iff_eq.mpr c35
                clear c35
                (first | rw [c35b0] | (simp only [i64_w, i32_w]; rw [c35b0]) | rw [c35b2] | skip)
                replace H := Option.bind_eq_some_iff.mp H
                obtain ⟨t371, A360, H⟩ := H
                replace H : (if t371 = true then ((stanza_Print.f t366).bind fun t372 => (manciplelaw5_StanzaLines.j3 k1 l0 a1 x5_1 x6_1 (t372.toList != x5_1.toList))) else (manciplelaw5_StanzaLines.j3 k1 l0 a1 x5_1 x6_1 true)) = some r := H
                have A36 := Aside0.mk A360
                clear A360
                by_cases c37 : t371 = true
                · subst c37
                  have H1 : ((stanza_Print.f t366).bind fun t372 => (manciplelaw5_StanzaLines.j3 k1 l0 a1 x5_1 x6_1 (t372.toList != x5_1.toList))) = some r := by rw [if_pos rfl] at H; exact H
                  clear H
                  have H := H1
                  clear H1
                  replace H := Option.bind_eq_some_iff.mp H
                  obtain ⟨t372, A380, H⟩ := H
                  replace H : (manciplelaw5_StanzaLines.j3 k1 l0 a1 x5_1 x6_1 (t372.toList != x5_1.toList)) = some r := H
                  have A38 := Aside0.mk A380
                  clear A380
                  have H' := Aside0.mk H
                  clear H
                  obtain ⟨Ao39, co39, eo39⟩ := Kd.S_slice HO370.out
                  subst eo39
                  obtain ⟨Ao40, co40, eo40⟩ := Kd.S_slice HO_7.out
                  subst eo40
                  go_wp2_with (first | (go_at_call 10; (with_reducible refine (manciplelaw5_same.calls k1 _ _ t366 _ _ x7_1 true _ ?side1 ?side2 ?side3 ?side4 A36.out).mono ?_); (case side1 => repeat (first | exact (Kd.S_reads' HO370.out).2.2 | (with_reducible refine Kd.C_alloc ?_ _) | (with_reducible refine Kd.C_drewN ?_ _) | (with_reducible refine Kd.C_drew ?_))); (case side2 => exact (Kd.S_reads' HO370.out).2.1); (case side3 => repeat (first | exact (Kd.S_reads' HO_7.out).2.2 | (with_reducible refine Kd.C_alloc ?_ _) | (with_reducible refine Kd.C_drewN ?_ _) | (with_reducible refine Kd.C_drew ?_))); (case side4 => exact (Kd.S_reads' HO_7.out).2.1); rintro e w41 ⟨rfl, hb⟩; have n0_ := Aside0.mk (Kd.S_below (by (with_reducible repeat (first | apply Kd.S_alloc | apply Kd.S_drewN | apply Kd.S_drew)); exact HO_7.out) hb); have n1_ := Aside0.mk (Kd.S_below (by (with_reducible repeat (first | apply Kd.S_alloc | apply Kd.S_drewN | apply Kd.S_drew)); exact HO370.out) hb); have n2_ := Aside0.mk (below_step (by repeat (first | (with_reducible first | exact HB.out | apply below_alloc | apply pw_below_drewN | apply below_drew1) | exact HB.out)) hb); clear HO_7; clear HO370; clear HB; have HO_7 := n0_; have HO370 := n1_; have HB := n2_; clear n0_ n1_ n2_; (try clear hb); (try clear hb2); (try clear hk); (try clear hi)) | (go_at_call 11; (with_reducible refine (stanza_Print.calls _ _ t366 t372 _ ?side1 ?side2 A38.out).mono ?_); (case side1 => repeat (first | exact (Kd.S_reads' HO370.out).2.2 | (with_reducible refine Kd.C_alloc ?_ _) | (with_reducible refine Kd.C_drewN ?_ _) | (with_reducible refine Kd.C_drew ?_))); (case side2 => exact (Kd.S_reads' HO370.out).2.1); rintro e w42 ⟨rfl, hb⟩; have n0_ := Aside0.mk (Kd.S_below (by (with_reducible repeat (first | apply Kd.S_alloc | apply Kd.S_drewN | apply Kd.S_drew)); exact HO_7.out) hb); have n1_ := Aside0.mk (Kd.S_below (by (with_reducible repeat (first | apply Kd.S_alloc | apply Kd.S_drewN | apply Kd.S_drew)); exact HO370.out) hb); have n2_ := Aside0.mk (below_step (by repeat (first | (with_reducible first | exact HB.out | apply below_alloc | apply pw_below_drewN | apply below_drew1) | exact HB.out)) hb); clear HO_7; clear HO370; clear HB; have HO_7 := n0_; have HO370 := n1_; have HB := n2_; clear n0_ n1_ n2_; (try clear hb); (try clear hb2); (try clear hk); (try clear hi)))
                  go_meet
                  case rel => exact ⟨_, ((t372.toList != x5_1.toList)), (by first | rfl | (simp; done) | (simp [*]; done)), H', ⟨by have := HK1.out; first | omega | exact Nat.le_refl _⟩, ⟨by repeat (first | (with_reducible first | exact HB.out | apply below_alloc | apply pw_below_drewN | apply below_drew1) | exact HB.out)⟩⟩
                · replace c37 := Bool.eq_false_iff.mpr c37
                  subst c37
                  have H1 : (manciplelaw5_StanzaLines.j3 k1 l0 a1 x5_1 x6_1 true) = some r := by rw [if_neg (show ¬ (false = true) by decide)] at H; exact H
                  clear H
                  have H := H1
                  clear H1
                  have H' := Aside0.mk H
                  clear H
                  obtain ⟨Ao43, co43, eo43⟩ := Kd.S_slice HO370.out
                  subst eo43
                  obtain ⟨Ao44, co44, eo44⟩ := Kd.S_slice HO_7.out
                  subst eo44
                  go_wp2_with (first | (go_at_call 10; (with_reducible refine (manciplelaw5_same.calls k1 _ _ t366 _ _ x7_1 false _ ?side1 ?side2 ?side3 ?side4 A36.out).mono ?_); (case side1 => repeat (first | exact (Kd.S_reads' HO370.out).2.2 | (with_reducible refine Kd.C_alloc ?_ _) | (with_reducible refine Kd.C_drewN ?_ _) | (with_reducible refine Kd.C_drew ?_))); (case side2 => exact (Kd.S_reads' HO370.out).2.1); (case side3 => repeat (first | exact (Kd.S_reads' HO_7.out).2.2 | (with_reducible refine Kd.C_alloc ?_ _) | (with_reducible refine Kd.C_drewN ?_ _) | (with_reducible refine Kd.C_drew ?_))); (case side4 => exact (Kd.S_reads' HO_7.out).2.1); rintro e w45 ⟨rfl, hb⟩; have n0_ := Aside0.mk (Kd.S_below (by (with_reducible repeat (first | apply Kd.S_alloc | apply Kd.S_drewN | apply Kd.S_drew)); exact HO_7.out) hb); have n1_ := Aside0.mk (Kd.S_below (by (with_reducible repeat (first | apply Kd.S_alloc | apply Kd.S_drewN | apply Kd.S_drew)); exact HO370.out) hb); have n2_ := Aside0.mk (below_step (by repeat (first | (with_reducible first | exact HB.out | apply below_alloc | apply pw_below_drewN | apply below_drew1) | exact HB.out)) hb); clear HO_7; clear HO370; clear HB; have HO_7 := n0_; have HO370 := n1_; have HB := n2_; clear n0_ n1_ n2_; (try clear hb); (try clear hb2); (try clear hk); (try clear hi)))
                  go_meet
                  case rel => exact ⟨_, (true), (by first | rfl | (simp; done) | (simp [*]; done)), H', ⟨by have := HK1.out; first | omega | exact Nat.le_refl _⟩, ⟨by repeat (first | (with_reducible first | exact HB.out | apply below_alloc | apply pw_below_drewN | apply below_drew1) | exact HB.out)⟩⟩
              · rw [if_neg c35] at H
                have c35b0 : (t368 == 0) = false := beq_eq_false_iff_ne.mpr c35
                have c35b1 : (t368 != 0) = true := bne_iff_ne.mpr c35
                (first | rw [c35b0] | (simp only [i64_w, i32_w]; rw [c35b0]) | rw [c35b2] | skip)
                have H' := Aside0.mk H
                clear H
                go_wp2
                go_meet
                case rel => exact ⟨_, (true), (by first | rfl | (simp; done) | (simp [*]; done)), H', ⟨by have := HK1.out; first | omega | exact Nat.le_refl _⟩, ⟨by repeat (first | (with_reducible first | exact HB.out | apply below_alloc | apply pw_below_drewN | apply below_drew1) | exact HB.out)⟩⟩
            case rest =>
              clear HC33
              try clear c1
              try clear c2
              try clear p2
              try clear hcv2
              try clear c3
              try clear p3
              try clear q3
              try clear hx3
              try clear c4
              try clear c5
              try clear c5b0
              try clear c5b1
              try clear p6
              try clear c7
              try clear c8
              try clear c8b0
              try clear c10
              try clear c10b0
              try clear c10b2
              try clear c11
              try clear c11b0
              try clear c11b1
              try clear c11b2
              try clear c12
              try clear c12b0
              try clear c13
              try clear c13b0
              try clear c14
              try clear c14b0
              try clear c15
              try clear c15b0
              try clear c15b1
              try clear c15b2
              try clear c16
              try clear c16b0
              try clear c16b1
              try clear c16b2
              try clear c17
              try clear c18
              try clear c18b0
              try clear c18b1
              try clear c18b2
              try clear c19
              try clear c19b0
              try clear c19b1
              try clear c19b2
              try clear c21
              try clear c21b0
              try clear c21b1
              try clear c21b2
              try clear c22
              try clear hcv25
              try clear c29
              try clear p34
              try clear q34
              try clear hx34
              try clear c35
              try clear c35b0
              try clear c35b1
              try clear c35b2
              try clear c37
              try clear hx349_0
              try clear p2
              try clear p349
              try clear p6
              try clear q349
              obtain ⟨kq, x95_32, rfl, HA, HJ32, HB⟩ := hcut
              cases kq with
              | zero => exact absurd HA.out (by simp [manciplelaw5_StanzaLines.j3])
              | succ kj32 =>
                have H := HA.out
                clear HA
                simp only [manciplelaw5_StanzaLines.j3] at H
                by_cases c46 : x95_32 = true
                · subst c46
                  have H1 : (some false) = some r := by rw [if_pos rfl] at H; exact H
                  clear H
                  have H := H1
                  clear H1
                  obtain rfl := Option.some.inj H
                  go_wp2
                  go_ret
                  exact ⟨by first | rfl | (simp [errW_none, errW_some] <;> rfl) | (simp [*, errW_none, errW_some] <;> rfl), by repeat (first | (with_reducible first | exact HB.out | apply below_alloc | apply pw_below_drewN | apply below_drew1) | exact HB.out)⟩
                · replace c46 := Bool.eq_false_iff.mpr c46
                  subst c46
                  have H1 : (if (l0.length : Int) = 0 then (some true) else (if 0 ≤ (wrap64 ((l0.length : Int) - 1)) then (if (wrap64 ((l0.length : Int) - 1)) < (l0.length : Int) then (if (wrap64 ((wrap64 (Int.tmod (rd l0 (wrap64 ((l0.length : Int) - 1))) 9)) + 1)) = 0 then (none) else ((some (([75, (wrap64 (97 + (Int.tmod (wrap64 (a1)) (wrap64 ((wrap64 (Int.tmod (rd l0 (wrap64 ((l0.length : Int) - 1))) 9)) + 1))))) % 256] : List Int) : List Int)).bind fun y374 => (if x5_1.size + (strOfNums y374).size ≤ 9223372036854775807 then ((some (x5_1 ++ (strOfNums y374) : ByteArray)).bind fun y377 => (if y377.size + 4 ≤ 9223372036854775807 then ((stanza_Parse.f kj32 (y377 ++ (⟨#[58, 32, 120, 10]⟩ : ByteArray))).bind fun bt379 => (if bt379.2.2 = 6 then (some (bt379.2.1 == x6_1)) else (some false))) else (none))) else (none)))) else (none)) else (none))) = some r := by rw [if_neg (show ¬ (false = true) by decide)] at H; exact H
                  clear H
                  have H := H1
                  clear H1
                  by_cases c47 : (l0.length : Int) = 0
                  · rw [if_pos c47] at H
                    have c47b0 : ((l0.length : Int) == 0) = true := beq_iff_eq.mpr c47
                    have c47b1 : ((l0.length : Int) != 0) = false := bne_eq_false_iff_eq.mpr c47
                    clear c47
                    obtain rfl := Option.some.inj H
                    go_wp2
                    go_ret
                    exact ⟨by first | rfl | (simp [errW_none, errW_some] <;> rfl) | (simp [*, errW_none, errW_some] <;> rfl), by repeat (first | (with_reducible first | exact HB.out | apply below_alloc | apply pw_below_drewN | apply below_drew1) | exact HB.out)⟩
                  · rw [if_neg c47] at H
                    have c47b0 : ((l0.length : Int) == 0) = false := beq_eq_false_iff_ne.mpr c47
                    have c47b1 : ((l0.length : Int) != 0) = true := bne_iff_ne.mpr c47
                    have c47b2 : ¬ (l0 = []) := fun h_ => c47 (by rw [h_]; rfl)
                    obtain ⟨ji48, hji48⟩ : ∃ j_ : Int, (wrap64 ((l0.length : Int) - 1)) = j_ := ⟨_, rfl⟩
                    replace H : (if 0 ≤ (ji48) then (if (ji48) < (l0.length : Int) then (if (wrap64 ((wrap64 (Int.tmod (rd l0 (ji48)) 9)) + 1)) = 0 then (none) else ((some (([75, (wrap64 (97 + (Int.tmod (wrap64 (a1)) (wrap64 ((wrap64 (Int.tmod (rd l0 (ji48)) 9)) + 1))))) % 256] : List Int) : List Int)).bind fun y374 => (if x5_1.size + (strOfNums y374).size ≤ 9223372036854775807 then ((some (x5_1 ++ (strOfNums y374) : ByteArray)).bind fun y377 => (if y377.size + 4 ≤ 9223372036854775807 then ((stanza_Parse.f kj32 (y377 ++ (⟨#[58, 32, 120, 10]⟩ : ByteArray))).bind fun bt379 => (if bt379.2.2 = 6 then (some (bt379.2.1 == x6_1)) else (some false))) else (none))) else (none)))) else (none)) else (none)) = some r := by first | (rw [hji48] at H; exact H) | (simp only [hji48] at H ⊢; exact H)
                    have hji48w : (IntKind.i64.wrap ((l0.length : Int) - 1)) = ji48 := (i64_w _).trans hji48
                    by_cases c49 : 0 ≤ (ji48)
                    · rw [if_pos c49] at H
                      have c49b0 : decide (0 ≤ (ji48)) = true := decide_eq_true c49
                      clear c49
                      by_cases c50 : (ji48) < (l0.length : Int)
                      · rw [if_pos c50] at H
                        have c50b0 : decide ((ji48) < (l0.length : Int)) = true := decide_eq_true c50
                        clear c50
                        by_cases c51 : (wrap64 ((wrap64 (Int.tmod (rd l0 (ji48)) 9)) + 1)) = 0
                        · rw [if_pos c51] at H
                          exact absurd H (by simp)
                        · rw [if_neg c51] at H
                          have c51b0 : ((wrap64 ((wrap64 (Int.tmod (rd l0 (ji48)) 9)) + 1)) == 0) = false := beq_eq_false_iff_ne.mpr c51
                          have c51b1 : ((wrap64 ((wrap64 (Int.tmod (rd l0 (ji48)) 9)) + 1)) != 0) = true := bne_iff_ne.mpr c51
                          obtain ⟨y374, hy374⟩ : ∃ y_ : List Int, y_ = (([75, (wrap64 (97 + (Int.tmod (wrap64 (a1)) (wrap64 ((wrap64 (Int.tmod (rd l0 (ji48)) 9)) + 1))))) % 256] : List Int)) := ⟨_, rfl⟩
                          replace H : (if x5_1.size + (strOfNums y374).size ≤ 9223372036854775807 then ((some (x5_1 ++ (strOfNums y374) : ByteArray)).bind fun y377 => (if y377.size + 4 ≤ 9223372036854775807 then ((stanza_Parse.f kj32 (y377 ++ (⟨#[58, 32, 120, 10]⟩ : ByteArray))).bind fun bt379 => (if bt379.2.2 = 6 then (some (bt379.2.1 == x6_1)) else (some false))) else (none))) else (none)) = some r := by first | (rw [hy374]; with_reducible exact H) | (have H2_ := (Option.bind_some _ _).symm.trans H; rw [hy374]; with_reducible exact H2_) | (have H2_ := (Option.bind_some _ _).symm.trans H; with_reducible exact H2_) | with_reducible exact H | (rw [hy374]; exact H) | exact H
                          have Ny374 := Aside0.mk hy374
                          clear hy374
                          by_cases c52 : x5_1.size + (strOfNums y374).size ≤ 9223372036854775807
                          · rw [if_pos c52] at H
                            have c52b0 := eq_true c52
                            have c52b1 : decide (x5_1.size + (strOfNums y374).size ≤ 9223372036854775807) = true := decide_eq_true c52
                            try have c52b2 : (9223372036854775807 < x5_1.size + (strOfNums y374).size) = False := eq_false (Nat.not_lt.2 c52)
                            obtain ⟨y377, hy377⟩ : ∃ y_ : ByteArray, y_ = (x5_1 ++ (strOfNums y374)) := ⟨_, rfl⟩
                            replace H : (if y377.size + 4 ≤ 9223372036854775807 then ((stanza_Parse.f kj32 (y377 ++ (⟨#[58, 32, 120, 10]⟩ : ByteArray))).bind fun bt379 => (if bt379.2.2 = 6 then (some (bt379.2.1 == x6_1)) else (some false))) else (none)) = some r := by first | (rw [hy377]; with_reducible exact H) | (have H2_ := (Option.bind_some _ _).symm.trans H; rw [hy377]; with_reducible exact H2_) | (have H2_ := (Option.bind_some _ _).symm.trans H; with_reducible exact H2_) | with_reducible exact H | (rw [hy377]; exact H) | exact H
                            have Ny377 := Aside0.mk hy377
                            clear hy377
                            have Ey377 : x5_1 ++ (strOfNums y374) = y377 := Ny377.out.symm
                            by_cases c53 : y377.size + 4 ≤ 9223372036854775807
                            · rw [if_pos c53] at H
                              have c53b0 := eq_true c53
                              have c53b1 : decide (y377.size + 4 ≤ 9223372036854775807) = true := decide_eq_true c53
                              try have c53b2 : (9223372036854775807 < y377.size + 4) = False := eq_false (Nat.not_lt.2 c53)
                              obtain ⟨y378, hy378⟩ : ∃ y_ : ByteArray, y_ = (y377 ++ (⟨#[58, 32, 120, 10]⟩ : ByteArray)) := ⟨_, rfl⟩
                              replace H : ((stanza_Parse.f kj32 y378).bind fun bt379 => (if bt379.2.2 = 6 then (some (bt379.2.1 == x6_1)) else (some false))) = some r := by first | (rw [hy378]; with_reducible exact H) | (have H2_ := (Option.bind_some _ _).symm.trans H; rw [hy378]; with_reducible exact H2_) | (have H2_ := (Option.bind_some _ _).symm.trans H; with_reducible exact H2_) | with_reducible exact H | (rw [hy378]; exact H) | exact H
                              have Ny378 := Aside0.mk hy378
                              clear hy378
                              have Ey378 : y377 ++ (⟨#[58, 32, 120, 10]⟩ : ByteArray) = y378 := Ny378.out.symm
                              replace H := Option.bind_eq_some_iff.mp H
                              obtain ⟨⟨t379, t380, t381⟩, A540, H⟩ := H
                              replace H : (if t381 = 6 then (some (t380 == x6_1)) else (some false)) = some r := H
                              have A54 := Aside0.mk A540
                              clear A540
                              by_cases c55 : t381 = 6
                              · rw [if_pos c55] at H
                                have c55b0 : (t381 == 6) = true := beq_iff_eq.mpr c55
                                have c55b1 : (t381 != 6) = false := bne_eq_false_iff_eq.mpr c55
                                clear c55
                                obtain rfl := Option.some.inj H
                                have p373 : 0 ≤ ((ji48) : Int) := of_decide_eq_true (by first | (with_reducible assumption) | assumption)
                                have q373 : (ji48) < (l0.length : Int) := of_decide_eq_true (by first | (with_reducible assumption) | assumption)
                                obtain ⟨ad373, e373, hx373_0⟩ := Kd.at_int HR0.out (ji48) p373 q373
                                cases e373
                                replace hx373_0 := (HB.out.cell (World.block_lt_of_cell? w _ hx373_0)).trans hx373_0
                                replace p373 := eq_true p373
                                replace q373 := eq_true q373
                                go_wp2_with (first | ((with_reducible refine gate_dst (N := 116) rfl ?_); refine Kd.R_lit (Kd.int .u8) _ 5 ?hg (N := 116) ?hd (xs := ([75, (wrap64 (97 + (Int.tmod (wrap64 (a1)) (wrap64 ((wrap64 (Int.tmod (rd l0 (ji48)) 9)) + 1))))) % 256] : List Int)) (inner := [.int .u8 75, .int .u8 ((wrap64 (97 + (Int.tmod (wrap64 (a1)) (wrap64 ((wrap64 (Int.tmod (rd l0 (ji48)) 9)) + 1))))) % 256)]) (ok := fun _ => True) (okp := fun _ => True) ?hr ?hp (fun _ hk => hk) trivial (Below.refl _ _) (Nat.le_refl _) (by simp) ?_; (case hd => rfl); (case hg => rfl); (case hr => first | (go_simp; done) | (go_simp; rfl)); (case hp => exact (Reps.one (show Kd.M (Kd.int .u8) _ _ _ 75 [.int .u8 75] from rfl) (Reps.one (show Kd.M (Kd.int .u8) _ _ _ ((wrap64 (97 + (Int.tmod (wrap64 (a1)) (wrap64 ((wrap64 (Int.tmod (rd l0 (ji48)) 9)) + 1))))) % 256) [.int .u8 ((wrap64 (97 + (Int.tmod (wrap64 (a1)) (wrap64 ((wrap64 (Int.tmod (rd l0 (ji48)) 9)) + 1))))) % 256)] from rfl) (Reps.none _ _)))); intro v375 w56 ho57 hb hg_ hnew_; clear hg_ hnew_; (first | rw [← Ny374.out] at ho57 | (simp only [Int.reduceToNat] at ho57; rw [← Ny374.out] at ho57)); have n0_ := Aside0.mk (Kd.R_lower ho57 (below_size (by repeat (first | (with_reducible first | exact HB.out | apply below_alloc | apply pw_below_drewN | apply below_drew1) | exact HB.out)))); have n1_ := Aside0.mk (below_step (by repeat (first | (with_reducible first | exact HB.out | apply below_alloc | apply pw_below_drewN | apply below_drew1) | exact HB.out)) hb); clear HB; have HO376 := n0_; have HB := n1_; clear n0_ n1_; clear hb ho57; have hcv58 := own_string (P := Tryd.prog) Tryd.underlying50 Tryd.underlying5 Tryd.underlying9 (Kd.own_of_R HO376.out)) | ((with_reducible refine gate_callee (f := 8) rfl ?_); refine goesL_ (some 120) rfl rfl Tryd.func8 (by kernel_rfl) rfl #[.string y378] rfl (by (try simp only [List.map_toArray, List.map_cons, List.map_nil]); first | done | rfl | (simp only [List.length_drop, List.length_take]; rfl)) ?_; (with_reducible refine (stanza_Parse.calls kj32 y378 t379 t380 t381 _ (Glob.below HG.out (by repeat (first | (with_reducible first | exact HB.out | apply below_alloc | apply pw_below_drewN | apply below_drew1) | exact HB.out))) A54.out).mono ?_); rintro e w59 ⟨v382, rfl, ho0, hb⟩; refine ⟨_, rfl, ?_⟩; have n0_ := Aside0.mk (Kd.R_below (by (with_reducible repeat (first | apply Kd.R_alloc | apply Kd.R_drewN | apply Kd.R_drew)); exact HO376.out) hb); have n1_ := Aside0.mk (Kd.S_lower ho0 (below_size (by repeat (first | (with_reducible first | exact HB.out | apply below_alloc | apply pw_below_drewN | apply below_drew1) | exact HB.out)))); have n2_ := Aside0.mk (below_step (by repeat (first | (with_reducible first | exact HB.out | apply below_alloc | apply pw_below_drewN | apply below_drew1) | exact HB.out)) hb); clear HO376; clear HB; have HO376 := n0_; have HO383 := n1_; have HB := n2_; clear n0_ n1_ n2_; (try clear hb); (try clear hb2); (try clear hk); (try clear hi); (try clear ho0)))
                                go_ret
                                exact ⟨by first | rfl | (simp [errW_none, errW_some] <;> rfl) | (simp only [← hji48]; first | rfl | (simp [errW_none, errW_some] <;> rfl)) | (simp [*, errW_none, errW_some] <;> rfl), by repeat (first | (with_reducible first | exact HB.out | apply below_alloc | apply pw_below_drewN | apply below_drew1) | exact HB.out)⟩
                              · rw [if_neg c55] at H
                                have c55b0 : (t381 == 6) = false := beq_eq_false_iff_ne.mpr c55
                                have c55b1 : (t381 != 6) = true := bne_iff_ne.mpr c55
                                obtain rfl := Option.some.inj H
                                have p373 : 0 ≤ ((ji48) : Int) := of_decide_eq_true (by first | (with_reducible assumption) | assumption)
                                have q373 : (ji48) < (l0.length : Int) := of_decide_eq_true (by first | (with_reducible assumption) | assumption)
                                obtain ⟨ad373, e373, hx373_0⟩ := Kd.at_int HR0.out (ji48) p373 q373
                                cases e373
                                replace hx373_0 := (HB.out.cell (World.block_lt_of_cell? w _ hx373_0)).trans hx373_0
                                replace p373 := eq_true p373
                                replace q373 := eq_true q373
                                go_wp2_with (first | ((with_reducible refine gate_dst (N := 116) rfl ?_); refine Kd.R_lit (Kd.int .u8) _ 5 ?hg (N := 116) ?hd (xs := ([75, (wrap64 (97 + (Int.tmod (wrap64 (a1)) (wrap64 ((wrap64 (Int.tmod (rd l0 (ji48)) 9)) + 1))))) % 256] : List Int)) (inner := [.int .u8 75, .int .u8 ((wrap64 (97 + (Int.tmod (wrap64 (a1)) (wrap64 ((wrap64 (Int.tmod (rd l0 (ji48)) 9)) + 1))))) % 256)]) (ok := fun _ => True) (okp := fun _ => True) ?hr ?hp (fun _ hk => hk) trivial (Below.refl _ _) (Nat.le_refl _) (by simp) ?_; (case hd => rfl); (case hg => rfl); (case hr => first | (go_simp; done) | (go_simp; rfl)); (case hp => exact (Reps.one (show Kd.M (Kd.int .u8) _ _ _ 75 [.int .u8 75] from rfl) (Reps.one (show Kd.M (Kd.int .u8) _ _ _ ((wrap64 (97 + (Int.tmod (wrap64 (a1)) (wrap64 ((wrap64 (Int.tmod (rd l0 (ji48)) 9)) + 1))))) % 256) [.int .u8 ((wrap64 (97 + (Int.tmod (wrap64 (a1)) (wrap64 ((wrap64 (Int.tmod (rd l0 (ji48)) 9)) + 1))))) % 256)] from rfl) (Reps.none _ _)))); intro v375 w60 ho61 hb hg_ hnew_; clear hg_ hnew_; (first | rw [← Ny374.out] at ho61 | (simp only [Int.reduceToNat] at ho61; rw [← Ny374.out] at ho61)); have n0_ := Aside0.mk (Kd.R_lower ho61 (below_size (by repeat (first | (with_reducible first | exact HB.out | apply below_alloc | apply pw_below_drewN | apply below_drew1) | exact HB.out)))); have n1_ := Aside0.mk (below_step (by repeat (first | (with_reducible first | exact HB.out | apply below_alloc | apply pw_below_drewN | apply below_drew1) | exact HB.out)) hb); clear HB; have HO376 := n0_; have HB := n1_; clear n0_ n1_; clear hb ho61; have hcv62 := own_string (P := Tryd.prog) Tryd.underlying50 Tryd.underlying5 Tryd.underlying9 (Kd.own_of_R HO376.out)) | ((with_reducible refine gate_callee (f := 8) rfl ?_); refine goesL_ (some 120) rfl rfl Tryd.func8 (by kernel_rfl) rfl #[.string y378] rfl (by (try simp only [List.map_toArray, List.map_cons, List.map_nil]); first | done | rfl | (simp only [List.length_drop, List.length_take]; rfl)) ?_; (with_reducible refine (stanza_Parse.calls kj32 y378 t379 t380 t381 _ (Glob.below HG.out (by repeat (first | (with_reducible first | exact HB.out | apply below_alloc | apply pw_below_drewN | apply below_drew1) | exact HB.out))) A54.out).mono ?_); rintro e w63 ⟨v382, rfl, ho0, hb⟩; refine ⟨_, rfl, ?_⟩; have n0_ := Aside0.mk (Kd.R_below (by (with_reducible repeat (first | apply Kd.R_alloc | apply Kd.R_drewN | apply Kd.R_drew)); exact HO376.out) hb); have n1_ := Aside0.mk (Kd.S_lower ho0 (below_size (by repeat (first | (with_reducible first | exact HB.out | apply below_alloc | apply pw_below_drewN | apply below_drew1) | exact HB.out)))); have n2_ := Aside0.mk (below_step (by repeat (first | (with_reducible first | exact HB.out | apply below_alloc | apply pw_below_drewN | apply below_drew1) | exact HB.out)) hb); clear HO376; clear HB; have HO376 := n0_; have HO383 := n1_; have HB := n2_; clear n0_ n1_ n2_; (try clear hb); (try clear hb2); (try clear hk); (try clear hi); (try clear ho0)))
                                go_ret
                                exact ⟨by first | rfl | (simp [errW_none, errW_some] <;> rfl) | (simp only [← hji48]; first | rfl | (simp [errW_none, errW_some] <;> rfl)) | (simp [*, errW_none, errW_some] <;> rfl), by repeat (first | (with_reducible first | exact HB.out | apply below_alloc | apply pw_below_drewN | apply below_drew1) | exact HB.out)⟩
                            · rw [if_neg c53] at H
                              exact absurd H (by simp)
                          · rw [if_neg c52] at H
                            exact absurd H (by simp)
                      · rw [if_neg c50] at H
                        exact absurd H (by simp)
                    · rw [if_neg c49] at H
                      exact absurd H (by simp)
  · replace c4 := Bool.eq_false_iff.mpr c4
    subst c4
    have H1 : (some false) = some r := by rw [if_neg (show ¬ (false = true) by decide)] at H; exact H
    clear H
    have H := H1
    clear H1
    obtain rfl := Option.some.inj H
    go_enter Tryd.func5, Tryd.ntmps5
    go_wp2_with (first | ((with_reducible refine gate_callee (f := 7) rfl ?_); refine goesL_ (some 19) rfl rfl Tryd.func7 (by kernel_rfl) rfl #[] rfl (by (try simp only [List.map_toArray, List.map_cons, List.map_nil]); first | done | rfl | (simp only [List.length_drop, List.length_take]; rfl)) ?_; (with_reducible refine (manciplelaw5_known.calls k  false _ (Glob.below HG.out (by repeat (first | (with_reducible first | exact HB.out | apply below_alloc | apply pw_below_drewN | apply below_drew1) | exact HB.out))) A3.out).mono ?_); rintro e w64 ⟨rfl, hb⟩; refine ⟨_, rfl, ?_⟩; have n0_ := Aside0.mk (below_step (by repeat (first | (with_reducible first | exact HB.out | apply below_alloc | apply pw_below_drewN | apply below_drew1) | exact HB.out)) hb); clear HB; have HB := n0_; clear n0_; (try clear hb); (try clear hb2); (try clear hk); (try clear hi)))
    go_ret
    exact ⟨by first | rfl | (simp [errW_none, errW_some] <;> rfl) | (simp [*, errW_none, errW_some] <;> rfl), by repeat (first | (with_reducible first | exact HB.out | apply below_alloc | apply pw_below_drewN | apply below_drew1) | exact HB.out)⟩
end Go.Proofs.YtmgeokfknehonaaDoor.Q
