/- Printed by a program of this repo, over the kit's print, for this claim; hand-made contracts stand among it. Plain theorems, Lean checks them. -/
import Derived.Test.YtpijehmhgjkkoaaDoorAVerMarks0
namespace Go.Proofs.YtpijehmhgjkkoaaDoor.Q
open Go.RowKit Go.Proofs.YtpijehmhgjkkoaaDoorW.PrintWords Go.Proofs.YtpijehmhgjkkoaaDoorW.PrintLast Go.Proofs.YtpijehmhgjkkoaaDoorW.PrintMore
attribute [local go_sem] max2_int min2_int max_two min_two max_three min_three max_four min_four   -- for this text's walks alone
set_option linter.unusedVariables false
set_option linter.unusedSimpArgs false
/-! ### ver_Epoch: function 13 -/
def ver_Epoch.l0 : Nat → ByteArray → Bool → Int → Int → Option (Int)
  | 0, _, _, _, _ => none
  | k + 1, x3, x5, x6, x7 => if x5 = true then (if x7 < (mn (x3.size : Int) 6) then (if 0 ≤ x7 then (if x7 < (x3.size : Int) then (ver_Epoch.l0 k x3 x5 (wrap64 ((wrap64 ((wrap64 (10 * x6)) + (wrap64 (bt x3 x7)))) - 48)) (wrap64 (x7 + 1))) else (none)) else (none)) else (some x6)) else (some x6)
def ver_Epoch.f (k : Nat) (a0 : ByteArray) : Option (Int) := (strings_Cut.f a0 (⟨#[58]⟩ : ByteArray)).bind fun bt187 => (ver_Epoch.l0 k bt187.1 bt187.2.2 0 0)
theorem ver_Epoch.mono_l : ∀ k, (∀ y0 y1 y2 y3, LeO (ver_Epoch.l0 k y0 y1 y2 y3) (ver_Epoch.l0 (k + 1) y0 y1 y2 y3))
  | 0 => fun _ _ _ _ r h => by simp [ver_Epoch.l0] at h
  | k + 1 => by
    have ih0 := ver_Epoch.mono_l k
    · intro y0 y1 y2 y3
      unfold ver_Epoch.l0
      repeat' first
      | (with_reducible exact ih0 _ _ _ _)
      | (with_reducible exact LeO.refl _)
      | (with_reducible exact LeO.none _)
      | (with_reducible refine LeO.ite ?_ ?_)
      | (with_reducible refine LeO.bind ?_ (fun _ => ?_))
      | exact ih0 _ _ _ _
      | exact LeO.none _
      | refine LeO.ite ?_ ?_
      | refine LeO.bind ?_ (fun _ => ?_)
theorem ver_Epoch.mono : ∀ a0 k, LeO (ver_Epoch.f k a0) (ver_Epoch.f (k + 1) a0) := by
  intro a0 k
  have ih0 := ver_Epoch.mono_l k
  unfold ver_Epoch.f
  repeat' first
      | (with_reducible exact ih0 _ _ _ _)
      | (with_reducible exact LeO.refl _)
      | (with_reducible exact LeO.none _)
      | (with_reducible refine LeO.ite ?_ ?_)
      | (with_reducible refine LeO.bind ?_ (fun _ => ?_))
      | exact ih0 _ _ _ _
      | exact LeO.none _
      | refine LeO.ite ?_ ?_
      | refine LeO.bind ?_ (fun _ => ?_)
set_option maxHeartbeats 8000000 in
set_option maxRecDepth 100000 in
theorem ver_Epoch.calls (k : Nat) (a0 : ByteArray) (r : Int) (w : World) (h : ver_Epoch.f k a0 = some r) :
    Calls Tryd.prog 13 #[.string a0] w fun e w' => e = .returned (.int .i64 r) ∧ Below w.heap.size w w' := by
  have HB := Aside0.mk (Below.refl w.heap.size w)
  have H : ((strings_Cut.f a0 (⟨#[58]⟩ : ByteArray)).bind fun bt187 => (ver_Epoch.l0 k bt187.1 bt187.2.2 0 0)) = some r := h
  clear h
  replace H := Option.bind_eq_some_iff.mp H
  obtain ⟨⟨t187, t188, t189⟩, A20, H⟩ := H
  replace H : (ver_Epoch.l0 k t187 t189 0 0) = some r := H
  have A2 := Aside0.mk A20
  clear A20
  have H' := Aside0.mk H
  clear H
  go_enter Tryd.func13, Tryd.ntmps13
  go_wp2_with (first | ((with_reducible refine gate_callee (f := 25) rfl ?_); refine goesL_ (some 10) rfl rfl Tryd.func25 (by kernel_rfl) rfl #[.string a0, .string (⟨#[58]⟩ : ByteArray)] rfl (by (try simp only [List.map_toArray, List.map_cons, List.map_nil]); first | done | rfl | (simp only [List.length_drop, List.length_take]; rfl)) ?_; (with_reducible refine (strings_Cut.calls a0 (⟨#[58]⟩ : ByteArray) t187 t188 t189 _ A2.out).mono ?_); rintro e w' ⟨rfl, ⟨nd, rfl⟩⟩; refine ⟨_, rfl, ?_⟩))
  go_loopg [6, 7] k (fun kq v6 v7 w' => ∃ (x6_1 : Int) (x7_1 : Int), v6 = .int .i64 x6_1 ∧ v7 = .int .i64 x7_1 ∧ Aside0 (ver_Epoch.l0 kq t187 t189 x6_1 x7_1 = some r) ∧ Aside0 (kq ≤ k) ∧ Aside0 (Below w.heap.size w w'))
  case atStart => exact ⟨(0), (0), (by first | rfl | (simp; done) | (simp [*]; done)), (by first | rfl | (simp; done) | (simp [*]; done)), H', ⟨Nat.le_refl _⟩, ⟨by repeat (first | (with_reducible first | exact HB.out | apply below_alloc | apply pw_below_drewN | apply below_drew1) | exact HB.out)⟩⟩
  case round =>
    clear H'
    try clear c1
    try clear c2
    try clear p2
    obtain ⟨x6_1, x7_1, rfl, rfl, HA, HK1, HB⟩ := hrel
    cases gk with
    | zero => exact absurd HA.out (by simp [ver_Epoch.l0])
    | succ k1 =>
      have H := HA.out
      clear HA
      simp only [ver_Epoch.l0] at H
      by_cases c3 : t189 = true
      · subst c3
        have H1 : (if x7_1 < (mn (t187.size : Int) 6) then (if 0 ≤ x7_1 then (if x7_1 < (t187.size : Int) then (ver_Epoch.l0 k1 t187 true (wrap64 ((wrap64 ((wrap64 (10 * x6_1)) + (wrap64 (bt t187 x7_1)))) - 48)) (wrap64 (x7_1 + 1))) else (none)) else (none)) else (some x6_1)) = some r := by rw [if_pos rfl] at H; exact H
        clear H
        have H := H1
        clear H1
        obtain ⟨ji4, hji4⟩ : ∃ j_ : Int, (mn (t187.size : Int) 6) = j_ := ⟨_, rfl⟩
        replace H : (if x7_1 < (ji4) then (if 0 ≤ x7_1 then (if x7_1 < (t187.size : Int) then (ver_Epoch.l0 k1 t187 true (wrap64 ((wrap64 ((wrap64 (10 * x6_1)) + (wrap64 (bt t187 x7_1)))) - 48)) (wrap64 (x7_1 + 1))) else (none)) else (none)) else (some x6_1)) = some r := by first | (rw [hji4] at H; exact H) | (simp only [hji4] at H ⊢; exact H)
        have hji4_ : (if 6 < (t187.size : Int) then 6 else (t187.size : Int)) = ji4 := hji4
        by_cases c5 : x7_1 < (ji4)
        · rw [if_pos c5] at H
          have c5b0 : decide (x7_1 < (ji4)) = true := decide_eq_true c5
          clear c5
          by_cases c6 : 0 ≤ x7_1
          · rw [if_pos c6] at H
            have c6b0 : decide (0 ≤ x7_1) = true := decide_eq_true c6
            clear c6
            by_cases c7 : x7_1 < (t187.size : Int)
            · rw [if_pos c7] at H
              have c7b0 : decide (x7_1 < (t187.size : Int)) = true := decide_eq_true c7
              clear c7
              have H' := Aside0.mk H
              clear H
              have p8 : 0 ≤ (x7_1 : Int) := of_decide_eq_true (by first | (with_reducible assumption) | assumption)
              have q8 : x7_1 < (t187.size : Int) := of_decide_eq_true (by first | (with_reducible assumption) | assumption)
              have hx8 := bt_at t187 x7_1
              replace p8 := eq_true p8
              replace q8 := eq_true q8
              go_wp2
              go_roundg k1
              case measure => have := HK1.out; omega
              case rel => exact ⟨(wrap64 ((wrap64 ((wrap64 (10 * x6_1)) + (wrap64 (bt t187 x7_1)))) - 48)), (wrap64 (x7_1 + 1)), (by first | rfl | (simp; done) | (simp [*]; done)), (by first | rfl | (simp; done) | (simp [*]; done)), H', ⟨by have := HK1.out; omega⟩, ⟨by repeat (first | (with_reducible first | exact HB.out | apply below_alloc | apply pw_below_drewN | apply below_drew1) | exact HB.out)⟩⟩
            · rw [if_neg c7] at H
              exact absurd H (by simp)
          · rw [if_neg c6] at H
            exact absurd H (by simp)
        · rw [if_neg c5] at H
          have c5b0 : decide (x7_1 < (ji4)) = false := decide_eq_false c5
          clear c5
          obtain rfl := Option.some.inj H
          go_wp2
          go_ret
          exact ⟨by first | rfl | (simp [errW_none, errW_some] <;> rfl) | (simp only [← hji4]; first | rfl | (simp [errW_none, errW_some] <;> rfl)) | (simp [*, errW_none, errW_some] <;> rfl), by repeat (first | (with_reducible first | exact HB.out | apply below_alloc | apply pw_below_drewN | apply below_drew1) | exact HB.out)⟩
      · replace c3 := Bool.eq_false_iff.mpr c3
        subst c3
        have H1 : (some x6_1) = some r := by rw [if_neg (show ¬ (false = true) by decide)] at H; exact H
        clear H
        have H := H1
        clear H1
        obtain rfl := Option.some.inj H
        go_wp2
        go_ret
        exact ⟨by first | rfl | (simp [errW_none, errW_some] <;> rfl) | (simp [*, errW_none, errW_some] <;> rfl), by repeat (first | (with_reducible first | exact HB.out | apply below_alloc | apply pw_below_drewN | apply below_drew1) | exact HB.out)⟩
end Go.Proofs.YtpijehmhgjkkoaaDoor.Q
namespace Go.Proofs.YtpijehmhgjkkoaaDoor.Q
open Go.RowKit Go.Proofs.YtpijehmhgjkkoaaDoorW.PrintWords Go.Proofs.YtpijehmhgjkkoaaDoorW.PrintLast Go.Proofs.YtpijehmhgjkkoaaDoorW.PrintMore
attribute [local go_sem] max2_int min2_int max_two min_two max_three min_three max_four min_four   -- for this text's walks alone
set_option linter.unusedVariables false
set_option linter.unusedSimpArgs false

-- HANDPART Compare_1.lean
/-! ### ver_Compare_1: by hand -/
/-- What the closure leaves in its two variables: the parts, or the error. -/
def ver_Compare_1.f (k : Nat) (c : Int) (a x1 x2 x3 : ByteArray) : Option (Int × ByteArray × ByteArray × ByteArray) := (ver_cut.f k a).bind fun t => (if t.2.2.2 = 0 then some (c, t.1, t.2.1, t.2.2.1) else some (t.2.2.2, x1, x2, x3))
theorem ver_Compare_1.mono : ∀ c a x1 x2 x3 k, LeO (ver_Compare_1.f k c a x1 x2 x3) (ver_Compare_1.f (k + 1) c a x1 x2 x3) := by
  intro c a x1 x2 x3 k
  unfold ver_Compare_1.f
  repeat' first
    | (with_reducible exact ver_cut.mono _ _)
    | (with_reducible exact LeO.refl _)
    | (with_reducible refine LeO.bind ?_ (fun _ => ?_))
theorem below_low {B B' : Nat} {w w' : World} (h : Below B w w') (hB : B' ≤ B) : Below B' w w' := ⟨h.os, h.tape, h.output, h.size, fun k hk => h.block k (Nat.lt_of_lt_of_le hk hB)⟩
set_option maxHeartbeats 8000000 in
set_option maxRecDepth 100000 in
theorem ver_Compare_1.calls (k : Nat) (g0 g1 g2 : Nat) (c : Int) (a x1 x2 x3 : ByteArray) (r0 : Int) (r1 r2 r3 : ByteArray) (w : World)
    (h0 : w.heap[g0]? = some (.cells #[.int .i64 c] 23 (0, 0))) (h1 : w.heap[g1]? = some (.cells #[.string a] 9 (0, 0))) (h2 : w.heap[g2]? = some (.cells #[.string x1, .string x2, .string x3] 44 (0, 0)))
    (_n01 : g0 ≠ g1) (n02 : g0 ≠ g2) (_n12 : g1 ≠ g2) (h : ver_Compare_1.f k c a x1 x2 x3 = some (r0, r1, r2, r3)) :
    Calls Tryd.prog 26 #[.pointer (some ⟨g0, 0, none⟩), .pointer (some ⟨g1, 0, none⟩), .pointer (some ⟨g2, 0, none⟩)] w fun e w' => e = .returned (.tuple #[]) ∧ w'.heap[g0]? = some (.cells #[.int .i64 r0] 23 (0, 0)) ∧ w'.heap[g2]? = some (.cells #[.string r1, .string r2, .string r3] 44 (0, 0)) ∧ Kept w w' (fun k_ => k_ = g0 ∨ k_ = g2) ∧ ∀ B, B ≤ g0 → B ≤ g2 → Below B w w' := by
  obtain ⟨⟨t1, t2, t3, tc⟩, A, H⟩ := Option.bind_eq_some_iff.mp h
  have c1 : w.cell? ⟨g1, 0, none⟩ = some (.string a) := (blk_cell h1 0).trans rfl
  have l0 := blk_lt h0
  have l2 := blk_lt h2
  have H0 := Aside0.mk h0
  have H2 := Aside0.mk h2
  have N02 := Aside0.mk n02
  have N20 := Aside0.mk n02.symm
  clear h h0 h1 h2 n02
  by_cases hc : tc = 0
  · subst hc
    have A1 := Aside0.mk A
    clear A
    rw [if_pos rfl] at H
    obtain rfl : c = r0 := congrArg (fun z_ => z_.1) (Option.some.inj H)
    obtain rfl : t1 = r1 := congrArg (fun z_ => z_.2.1) (Option.some.inj H)
    obtain rfl : t2 = r2 := congrArg (fun z_ => z_.2.2.1) (Option.some.inj H)
    obtain rfl : t3 = r3 := congrArg (fun z_ => z_.2.2.2) (Option.some.inj H)
    clear H
    go_enter_defers Tryd.func26, Tryd.ntmps26
    go_wp2_with (go_at_call 19; (with_reducible refine (ver_cut.calls k a t1 t2 t3 _ A1.out).mono ?_); rintro e w1 ⟨rfl, hb⟩; have HB := Aside0.mk hb; have b0 := Aside0.mk (blk_below H0.out hb); have b2 := Aside0.mk (blk_below H2.out hb); clear hb; have d0 := (blk_cell b2.out 0).trans rfl; have d1 := (blk_cell b2.out 1).trans rfl; have d2 := (blk_cell b2.out 2).trans rfl; have f0 := blk_frozen b2.out 0; have f1 := blk_frozen b2.out 1; have f2 := blk_frozen b2.out 2)
    refine leaves_cons (f := 18) (args := #[.pointer (some ⟨g0, 0, none⟩)]) (by simp) (by simp [go_sem]) ?_
    refine (ver_catch.idle g0 _).mono ?_
    rintro e u' w'' ⟨rfl, rfl, rfl⟩
    refine leaves_nil (resultsS_list (rs := []) rfl (by simp) .nil) ?_
    refine ⟨rfl, ?_, ?_, ?_, ?_⟩
    · exact blk_far (blk_far (blk_far b0.out N02.out _) N02.out _) N02.out _
    · exact blk_put (cs' := #[.string t1, .string t2, .string t3]) (blk_put (cs' := #[.string t1, .string t2, .string x3]) (blk_put (cs' := #[.string t1, .string x2, .string x3]) b2.out 0 _ rfl) 1 _ rfl) 2 _ rfl
    · exact Kept.setCell (Kept.setCell (Kept.setCell (Kept.of_below HB.out _) (.inl (.inr rfl)) _) (.inl (.inr rfl)) _) (.inl (.inr rfl)) _
    · intro B hB0 hB2
      exact (((below_low HB.out (by omega)).setCell hB2 _).setCell hB2 _).setCell hB2 _
  · rw [if_neg hc] at H
    obtain rfl : tc = r0 := congrArg (fun z_ => z_.1) (Option.some.inj H)
    obtain rfl : x1 = r1 := congrArg (fun z_ => z_.2.1) (Option.some.inj H)
    obtain rfl : x2 = r2 := congrArg (fun z_ => z_.2.2.1) (Option.some.inj H)
    obtain rfl : x3 = r3 := congrArg (fun z_ => z_.2.2.2) (Option.some.inj H)
    have A1 := Aside0.mk A
    have HC := Aside0.mk hc
    clear H A hc
    go_enter_defers Tryd.func26, Tryd.ntmps26
    go_wp2_with (go_at_call 19; (with_reducible refine (ver_cut.panics k a t1 t2 t3 tc HC.out _ A1.out).mono ?_); rintro e w1 ⟨rfl, hb⟩; have HB := Aside0.mk hb; have b0 := Aside0.mk (blk_below H0.out hb); have b2 := Aside0.mk (blk_below H2.out hb); clear hb)
    refine leaves_cons (f := 18) (args := #[.pointer (some ⟨g0, 0, none⟩)]) (by simp) (by simp [go_sem]) ?_
    refine (ver_catch.hit g0 _ tc _ b0.out).mono ?_
    rintro e u' w'' ⟨rfl, rfl, rfl⟩
    refine leaves_nil (resultsS_list (rs := []) rfl (by simp) .nil) ?_
    refine ⟨rfl, ?_, ?_, ?_, ?_⟩
    · exact blk_put b0.out 0 _ rfl
    · exact blk_far b2.out N20.out _
    · exact Kept.setCell (Kept.of_below HB.out _) (.inl (.inl rfl)) _
    · intro B hB0 hB2
      exact (below_low HB.out (by omega)).setCell hB0 _
end Go.Proofs.YtpijehmhgjkkoaaDoor.Q
namespace Go.Proofs.YtpijehmhgjkkoaaDoor.Q
open Go.RowKit Go.Proofs.YtpijehmhgjkkoaaDoorW.PrintWords Go.Proofs.YtpijehmhgjkkoaaDoorW.PrintLast Go.Proofs.YtpijehmhgjkkoaaDoorW.PrintMore
attribute [local go_sem] max2_int min2_int max_two min_two max_three min_three max_four min_four   -- for this text's walks alone
set_option linter.unusedVariables false
set_option linter.unusedSimpArgs false

-- HANDPART Compare_2.lean
/-! ### ver_Compare_2: by hand -/
/-- What the closure leaves in its two variables: the parts, or the error. -/
def ver_Compare_2.f (k : Nat) (c : Int) (a x1 x2 x3 : ByteArray) : Option (Int × ByteArray × ByteArray × ByteArray) := (ver_cut.f k a).bind fun t => (if t.2.2.2 = 0 then some (c, t.1, t.2.1, t.2.2.1) else some (t.2.2.2, x1, x2, x3))
theorem ver_Compare_2.mono : ∀ c a x1 x2 x3 k, LeO (ver_Compare_2.f k c a x1 x2 x3) (ver_Compare_2.f (k + 1) c a x1 x2 x3) := by
  intro c a x1 x2 x3 k
  unfold ver_Compare_2.f
  repeat' first
    | (with_reducible exact ver_cut.mono _ _)
    | (with_reducible exact LeO.refl _)
    | (with_reducible refine LeO.bind ?_ (fun _ => ?_))
set_option maxHeartbeats 8000000 in
set_option maxRecDepth 100000 in
theorem ver_Compare_2.calls (k : Nat) (g0 g1 g2 : Nat) (c : Int) (a x1 x2 x3 : ByteArray) (r0 : Int) (r1 r2 r3 : ByteArray) (w : World)
    (h0 : w.heap[g0]? = some (.cells #[.int .i64 c] 23 (0, 0))) (h1 : w.heap[g1]? = some (.cells #[.string a] 9 (0, 0))) (h2 : w.heap[g2]? = some (.cells #[.string x1, .string x2, .string x3] 44 (0, 0)))
    (_n01 : g0 ≠ g1) (n02 : g0 ≠ g2) (_n12 : g1 ≠ g2) (h : ver_Compare_2.f k c a x1 x2 x3 = some (r0, r1, r2, r3)) :
    Calls Tryd.prog 27 #[.pointer (some ⟨g0, 0, none⟩), .pointer (some ⟨g1, 0, none⟩), .pointer (some ⟨g2, 0, none⟩)] w fun e w' => e = .returned (.tuple #[]) ∧ w'.heap[g0]? = some (.cells #[.int .i64 r0] 23 (0, 0)) ∧ w'.heap[g2]? = some (.cells #[.string r1, .string r2, .string r3] 44 (0, 0)) ∧ Kept w w' (fun k_ => k_ = g0 ∨ k_ = g2) ∧ ∀ B, B ≤ g0 → B ≤ g2 → Below B w w' := by
  obtain ⟨⟨t1, t2, t3, tc⟩, A, H⟩ := Option.bind_eq_some_iff.mp h
  have c1 : w.cell? ⟨g1, 0, none⟩ = some (.string a) := (blk_cell h1 0).trans rfl
  have l0 := blk_lt h0
  have l2 := blk_lt h2
  have H0 := Aside0.mk h0
  have H2 := Aside0.mk h2
  have N02 := Aside0.mk n02
  have N20 := Aside0.mk n02.symm
  clear h h0 h1 h2 n02
  by_cases hc : tc = 0
  · subst hc
    have A1 := Aside0.mk A
    clear A
    rw [if_pos rfl] at H
    obtain rfl : c = r0 := congrArg (fun z_ => z_.1) (Option.some.inj H)
    obtain rfl : t1 = r1 := congrArg (fun z_ => z_.2.1) (Option.some.inj H)
    obtain rfl : t2 = r2 := congrArg (fun z_ => z_.2.2.1) (Option.some.inj H)
    obtain rfl : t3 = r3 := congrArg (fun z_ => z_.2.2.2) (Option.some.inj H)
    clear H
    go_enter_defers Tryd.func27, Tryd.ntmps27
    go_wp2_with (go_at_call 19; (with_reducible refine (ver_cut.calls k a t1 t2 t3 _ A1.out).mono ?_); rintro e w1 ⟨rfl, hb⟩; have HB := Aside0.mk hb; have b0 := Aside0.mk (blk_below H0.out hb); have b2 := Aside0.mk (blk_below H2.out hb); clear hb; have d0 := (blk_cell b2.out 0).trans rfl; have d1 := (blk_cell b2.out 1).trans rfl; have d2 := (blk_cell b2.out 2).trans rfl; have f0 := blk_frozen b2.out 0; have f1 := blk_frozen b2.out 1; have f2 := blk_frozen b2.out 2)
    refine leaves_cons (f := 18) (args := #[.pointer (some ⟨g0, 0, none⟩)]) (by simp) (by simp [go_sem]) ?_
    refine (ver_catch.idle g0 _).mono ?_
    rintro e u' w'' ⟨rfl, rfl, rfl⟩
    refine leaves_nil (resultsS_list (rs := []) rfl (by simp) .nil) ?_
    refine ⟨rfl, ?_, ?_, ?_, ?_⟩
    · exact blk_far (blk_far (blk_far b0.out N02.out _) N02.out _) N02.out _
    · exact blk_put (cs' := #[.string t1, .string t2, .string t3]) (blk_put (cs' := #[.string t1, .string t2, .string x3]) (blk_put (cs' := #[.string t1, .string x2, .string x3]) b2.out 0 _ rfl) 1 _ rfl) 2 _ rfl
    · exact Kept.setCell (Kept.setCell (Kept.setCell (Kept.of_below HB.out _) (.inl (.inr rfl)) _) (.inl (.inr rfl)) _) (.inl (.inr rfl)) _
    · intro B hB0 hB2
      exact (((below_low HB.out (by omega)).setCell hB2 _).setCell hB2 _).setCell hB2 _
  · rw [if_neg hc] at H
    obtain rfl : tc = r0 := congrArg (fun z_ => z_.1) (Option.some.inj H)
    obtain rfl : x1 = r1 := congrArg (fun z_ => z_.2.1) (Option.some.inj H)
    obtain rfl : x2 = r2 := congrArg (fun z_ => z_.2.2.1) (Option.some.inj H)
    obtain rfl : x3 = r3 := congrArg (fun z_ => z_.2.2.2) (Option.some.inj H)
    have A1 := Aside0.mk A
    have HC := Aside0.mk hc
    clear H A hc
    go_enter_defers Tryd.func27, Tryd.ntmps27
    go_wp2_with (go_at_call 19; (with_reducible refine (ver_cut.panics k a t1 t2 t3 tc HC.out _ A1.out).mono ?_); rintro e w1 ⟨rfl, hb⟩; have HB := Aside0.mk hb; have b0 := Aside0.mk (blk_below H0.out hb); have b2 := Aside0.mk (blk_below H2.out hb); clear hb)
    refine leaves_cons (f := 18) (args := #[.pointer (some ⟨g0, 0, none⟩)]) (by simp) (by simp [go_sem]) ?_
    refine (ver_catch.hit g0 _ tc _ b0.out).mono ?_
    rintro e u' w'' ⟨rfl, rfl, rfl⟩
    refine leaves_nil (resultsS_list (rs := []) rfl (by simp) .nil) ?_
    refine ⟨rfl, ?_, ?_, ?_, ?_⟩
    · exact blk_put b0.out 0 _ rfl
    · exact blk_far b2.out N20.out _
    · exact Kept.setCell (Kept.of_below HB.out _) (.inl (.inl rfl)) _
    · intro B hB0 hB2
      exact (below_low HB.out (by omega)).setCell hB0 _
end Go.Proofs.YtpijehmhgjkkoaaDoor.Q
namespace Go.Proofs.YtpijehmhgjkkoaaDoor.Q
open Go.RowKit Go.Proofs.YtpijehmhgjkkoaaDoorW.PrintWords Go.Proofs.YtpijehmhgjkkoaaDoorW.PrintLast Go.Proofs.YtpijehmhgjkkoaaDoorW.PrintMore
attribute [local go_sem] max2_int min2_int max_two min_two max_three min_three max_four min_four   -- for this text's walks alone
set_option linter.unusedVariables false
set_option linter.unusedSimpArgs false
/-! ### cmp_Or_int: function 28 -/
def cmp_Or_int.l0 : Nat → Int → List Int → Int → Int → Option (Int)
  | 0, _, _, _, _ => none
  | k + 1, x3, x6, x7, x8 => if x8 < x7 then (if 0 ≤ x8 then (if x8 < (x6.length : Int) then (if (rd x6 x8) = x3 then (cmp_Or_int.l0 k x3 x6 x7 (wrap64 (x8 + 1))) else (some (rd x6 x8))) else (none)) else (none)) else (some x3)
def cmp_Or_int.f (k : Nat) (l0 : List Int) : Option (Int) := cmp_Or_int.l0 k 0 l0 (l0.length : Int) 0
theorem cmp_Or_int.mono_l : ∀ k, (∀ y0 y1 y2 y3, LeO (cmp_Or_int.l0 k y0 y1 y2 y3) (cmp_Or_int.l0 (k + 1) y0 y1 y2 y3))
  | 0 => fun _ _ _ _ r h => by simp [cmp_Or_int.l0] at h
  | k + 1 => by
    have ih0 := cmp_Or_int.mono_l k
    · intro y0 y1 y2 y3
      unfold cmp_Or_int.l0
      repeat' first
      | (with_reducible exact ih0 _ _ _ _)
      | (with_reducible exact LeO.refl _)
      | (with_reducible exact LeO.none _)
      | (with_reducible refine LeO.ite ?_ ?_)
      | (with_reducible refine LeO.bind ?_ (fun _ => ?_))
      | exact ih0 _ _ _ _
      | exact LeO.none _
      | refine LeO.ite ?_ ?_
      | refine LeO.bind ?_ (fun _ => ?_)
theorem cmp_Or_int.mono : ∀ a0 k, LeO (cmp_Or_int.f k a0) (cmp_Or_int.f (k + 1) a0) := by
  intro a0 k
  have ih0 := cmp_Or_int.mono_l k
  unfold cmp_Or_int.f
  repeat' first
      | (with_reducible exact ih0 _ _ _ _)
      | (with_reducible exact LeO.refl _)
      | (with_reducible exact LeO.none _)
      | (with_reducible refine LeO.ite ?_ ?_)
      | (with_reducible refine LeO.bind ?_ (fun _ => ?_))
      | exact ih0 _ _ _ _
      | exact LeO.none _
      | refine LeO.ite ?_ ?_
      | refine LeO.bind ?_ (fun _ => ?_)
set_option maxHeartbeats 8000000 in
set_option maxRecDepth 100000 in
theorem cmp_Or_int.calls (k : Nat) (A0 : Option Addr) (c0 : Nat) (l0 : List Int) (r : Int) (w : World) (hr0 : Kd.C (Kd.int .i64) w A0 l0.length l0) (hc0 : l0.length ≤ c0) (h : cmp_Or_int.f k l0 = some r) :
    Calls Tryd.prog 28 #[.slice A0 l0.length c0] w fun e w' => e = .returned (.int .i64 r) ∧ Drawn0 w w' := by
  have HR0 := Aside0.mk hr0
  have HC0 := Aside0.mk hc0
  clear hr0 hc0
  have H : (cmp_Or_int.l0 k 0 l0 (l0.length : Int) 0) = some r := h
  clear h
  have H' := Aside0.mk H
  clear H
  go_enter Tryd.func28, Tryd.ntmps28
  go_wp2
  go_loopg [8] k (fun kq v8 w' => ∃ (x8_1 : Int), v8 = .int .i64 x8_1 ∧ Aside0 (cmp_Or_int.l0 kq 0 l0 (l0.length : Int) x8_1 = some r) ∧ Aside0 (kq ≤ k) ∧ Drawn0 w w')
  case atStart => exact ⟨(0), (by first | rfl | (simp; done) | (simp [*]; done)), H', ⟨Nat.le_refl _⟩, by repeat (first | exact Drawn0.refl _ | apply Drawn0.step)⟩
  case round =>
    clear H'
    obtain ⟨x8_1, rfl, HA, HK1, ⟨m1, rfl⟩⟩ := hrel
    cases gk with
    | zero => exact absurd HA.out (by simp [cmp_Or_int.l0])
    | succ k1 =>
      have H := HA.out
      clear HA
      simp only [cmp_Or_int.l0] at H
      by_cases c2 : x8_1 < (l0.length : Int)
      · rw [if_pos c2] at H
        have c2b0 : decide (x8_1 < (l0.length : Int)) = true := decide_eq_true c2
        clear c2
        by_cases c3 : 0 ≤ x8_1
        · rw [if_pos c3] at H
          have c3b0 : decide (0 ≤ x8_1) = true := decide_eq_true c3
          clear c3
          by_cases c4 : x8_1 < (l0.length : Int)
          · rw [if_pos c4] at H
            have c4b0 : decide (x8_1 < (l0.length : Int)) = true := decide_eq_true c4
            clear c4
            by_cases c5 : (rd l0 x8_1) = 0
            · rw [if_pos c5] at H
              have c5b0 : ((rd l0 x8_1) == 0) = true := beq_iff_eq.mpr c5
              have c5b1 : ((rd l0 x8_1) != 0) = false := bne_eq_false_iff_eq.mpr c5
              clear c5
              have H' := Aside0.mk H
              clear H
              have p190 : 0 ≤ (x8_1 : Int) := of_decide_eq_true (by first | (with_reducible assumption) | assumption)
              have q190 : x8_1 < (l0.length : Int) := of_decide_eq_true (by first | (with_reducible assumption) | assumption)
              obtain ⟨ad190, e190, hx190_0⟩ := Kd.at_int HR0.out x8_1 p190 q190
              cases e190
              replace p190 := eq_true p190
              replace q190 := eq_true q190
              go_wp2
              go_roundg k1
              case measure => have := HK1.out; omega
              case rel => exact ⟨(wrap64 (x8_1 + 1)), (by first | rfl | (simp; done) | (simp [*]; done)), H', ⟨by have := HK1.out; omega⟩, by repeat (first | exact Drawn0.refl _ | apply Drawn0.step)⟩
            · rw [if_neg c5] at H
              have c5b0 : ((rd l0 x8_1) == 0) = false := beq_eq_false_iff_ne.mpr c5
              have c5b1 : ((rd l0 x8_1) != 0) = true := bne_iff_ne.mpr c5
              obtain rfl := Option.some.inj H
              have p190 : 0 ≤ (x8_1 : Int) := of_decide_eq_true (by first | (with_reducible assumption) | assumption)
              have q190 : x8_1 < (l0.length : Int) := of_decide_eq_true (by first | (with_reducible assumption) | assumption)
              obtain ⟨ad190, e190, hx190_0⟩ := Kd.at_int HR0.out x8_1 p190 q190
              cases e190
              replace p190 := eq_true p190
              replace q190 := eq_true q190
              go_wp2
              go_ret
              exact ⟨by first | rfl | (simp; done) | (simp [*]; done), by repeat (first | exact Drawn0.refl _ | apply Drawn0.step)⟩
          · rw [if_neg c4] at H
            exact absurd H (by simp)
        · rw [if_neg c3] at H
          exact absurd H (by simp)
      · rw [if_neg c2] at H
        have c2b0 : decide (x8_1 < (l0.length : Int)) = false := decide_eq_false c2
        clear c2
        obtain rfl := Option.some.inj H
        go_wp2
        go_ret
        exact ⟨by first | rfl | (simp; done) | (simp [*]; done), by repeat (first | exact Drawn0.refl _ | apply Drawn0.step)⟩
end Go.Proofs.YtpijehmhgjkkoaaDoor.Q
namespace Go.Proofs.YtpijehmhgjkkoaaDoor.Q
open Go.RowKit Go.Proofs.YtpijehmhgjkkoaaDoorW.PrintWords Go.Proofs.YtpijehmhgjkkoaaDoorW.PrintLast Go.Proofs.YtpijehmhgjkkoaaDoorW.PrintMore
attribute [local go_sem] max2_int min2_int max_two min_two max_three min_three max_four min_four   -- for this text's walks alone
set_option linter.unusedVariables false
set_option linter.unusedSimpArgs false
/-! ### cmp_isNaN_int: function 63 -/
def cmp_isNaN_int.f (a0 : Int) : Option (Bool) := some (a0 != a0)
set_option maxHeartbeats 8000000 in
set_option maxRecDepth 100000 in
theorem cmp_isNaN_int.calls (a0 : Int) (r : Bool) (w : World) (h : cmp_isNaN_int.f a0 = some r) :
    Calls Tryd.prog 63 #[.int .i64 a0] w fun e w' => e = .returned (.bool r) ∧ Drawn0 w w' := by
  have H : (some (a0 != a0)) = some r := h
  clear h
  obtain rfl := Option.some.inj H
  go_enter Tryd.func63, Tryd.ntmps63
  go_wp2
  go_ret
  exact ⟨by first | rfl | (simp; done) | (simp [*]; done), by repeat (first | exact Drawn0.refl _ | apply Drawn0.step)⟩
end Go.Proofs.YtpijehmhgjkkoaaDoor.Q
namespace Go.Proofs.YtpijehmhgjkkoaaDoor.Q
open Go.RowKit Go.Proofs.YtpijehmhgjkkoaaDoorW.PrintWords Go.Proofs.YtpijehmhgjkkoaaDoorW.PrintLast Go.Proofs.YtpijehmhgjkkoaaDoorW.PrintMore
attribute [local go_sem] max2_int min2_int max_two min_two max_three min_three max_four min_four   -- for this text's walks alone
set_option linter.unusedVariables false
set_option linter.unusedSimpArgs false
/-! ### cmp_Compare_int: function 45 -/
def cmp_Compare_int.f (a0 : Int) (a1 : Int) : Option (Int) := (cmp_isNaN_int.f a0).bind fun t191 => ((cmp_isNaN_int.f a1).bind fun t192 => (if t191 = true then (if t192 = true then (some 0) else (some (-1))) else (if t192 = true then (some 1) else (if a0 < a1 then (some (-1)) else (if a0 > a1 then (some 1) else (some 0))))))
set_option maxHeartbeats 8000000 in
set_option maxRecDepth 100000 in
theorem cmp_Compare_int.calls (a0 : Int) (a1 : Int) (r : Int) (w : World) (h : cmp_Compare_int.f a0 a1 = some r) :
    Calls Tryd.prog 45 #[.int .i64 a0, .int .i64 a1] w fun e w' => e = .returned (.int .i64 r) ∧ Drawn0 w w' := by
  have H : ((cmp_isNaN_int.f a0).bind fun t191 => ((cmp_isNaN_int.f a1).bind fun t192 => (if t191 = true then (if t192 = true then (some 0) else (some (-1))) else (if t192 = true then (some 1) else (if a0 < a1 then (some (-1)) else (if a0 > a1 then (some 1) else (some 0))))))) = some r := h
  clear h
  replace H := Option.bind_eq_some_iff.mp H
  obtain ⟨t191, A30, H⟩ := H
  replace H : ((cmp_isNaN_int.f a1).bind fun t192 => (if t191 = true then (if t192 = true then (some 0) else (some (-1))) else (if t192 = true then (some 1) else (if a0 < a1 then (some (-1)) else (if a0 > a1 then (some 1) else (some 0)))))) = some r := H
  have A3 := Aside0.mk A30
  clear A30
  replace H := Option.bind_eq_some_iff.mp H
  obtain ⟨t192, A40, H⟩ := H
  replace H : (if t191 = true then (if t192 = true then (some 0) else (some (-1))) else (if t192 = true then (some 1) else (if a0 < a1 then (some (-1)) else (if a0 > a1 then (some 1) else (some 0))))) = some r := H
  have A4 := Aside0.mk A40
  clear A40
  by_cases c5 : t191 = true
  · subst c5
    have H1 : (if t192 = true then (some 0) else (some (-1))) = some r := by rw [if_pos rfl] at H; exact H
    clear H
    have H := H1
    clear H1
    by_cases c6 : t192 = true
    · subst c6
      have H1 : (some 0) = some r := by rw [if_pos rfl] at H; exact H
      clear H
      have H := H1
      clear H1
      obtain rfl := Option.some.inj H
      go_enter Tryd.func45, Tryd.ntmps45
      go_wp2_with (first | ((with_reducible refine gate_callee (f := 63) rfl ?_); refine goesL_ (some 8) rfl rfl Tryd.func63 (by kernel_rfl) rfl #[.int .i64 a0] rfl (by (try simp only [List.map_toArray, List.map_cons, List.map_nil]); first | done | rfl | (simp only [List.length_drop, List.length_take]; rfl)) ?_; (with_reducible refine (cmp_isNaN_int.calls a0 true _ A3.out).mono ?_); rintro e w' ⟨rfl, ⟨nd, rfl⟩⟩; refine ⟨_, rfl, ?_⟩) | ((with_reducible refine gate_callee (f := 63) rfl ?_); refine goesL_ (some 10) rfl rfl Tryd.func63 (by kernel_rfl) rfl #[.int .i64 a1] rfl (by (try simp only [List.map_toArray, List.map_cons, List.map_nil]); first | done | rfl | (simp only [List.length_drop, List.length_take]; rfl)) ?_; (with_reducible refine (cmp_isNaN_int.calls a1 true _ A4.out).mono ?_); rintro e w' ⟨rfl, ⟨nd, rfl⟩⟩; refine ⟨_, rfl, ?_⟩))
      go_ret
      exact ⟨by first | rfl | (simp; done) | (simp [*]; done), by repeat (first | exact Drawn0.refl _ | apply Drawn0.step)⟩
    · replace c6 := Bool.eq_false_iff.mpr c6
      subst c6
      have H1 : (some (-1)) = some r := by rw [if_neg (show ¬ (false = true) by decide)] at H; exact H
      clear H
      have H := H1
      clear H1
      obtain rfl := Option.some.inj H
      go_enter Tryd.func45, Tryd.ntmps45
      go_wp2_with (first | ((with_reducible refine gate_callee (f := 63) rfl ?_); refine goesL_ (some 8) rfl rfl Tryd.func63 (by kernel_rfl) rfl #[.int .i64 a0] rfl (by (try simp only [List.map_toArray, List.map_cons, List.map_nil]); first | done | rfl | (simp only [List.length_drop, List.length_take]; rfl)) ?_; (with_reducible refine (cmp_isNaN_int.calls a0 true _ A3.out).mono ?_); rintro e w' ⟨rfl, ⟨nd, rfl⟩⟩; refine ⟨_, rfl, ?_⟩) | ((with_reducible refine gate_callee (f := 63) rfl ?_); refine goesL_ (some 10) rfl rfl Tryd.func63 (by kernel_rfl) rfl #[.int .i64 a1] rfl (by (try simp only [List.map_toArray, List.map_cons, List.map_nil]); first | done | rfl | (simp only [List.length_drop, List.length_take]; rfl)) ?_; (with_reducible refine (cmp_isNaN_int.calls a1 false _ A4.out).mono ?_); rintro e w' ⟨rfl, ⟨nd, rfl⟩⟩; refine ⟨_, rfl, ?_⟩))
      go_ret
      exact ⟨by first | rfl | (simp; done) | (simp [*]; done), by repeat (first | exact Drawn0.refl _ | apply Drawn0.step)⟩
  · replace c5 := Bool.eq_false_iff.mpr c5
    subst c5
    have H1 : (if t192 = true then (some 1) else (if a0 < a1 then (some (-1)) else (if a0 > a1 then (some 1) else (some 0)))) = some r := by rw [if_neg (show ¬ (false = true) by decide)] at H; exact H
    clear H
    have H := H1
    clear H1
    by_cases c7 : t192 = true
    · subst c7
      have H1 : (some 1) = some r := by rw [if_pos rfl] at H; exact H
      clear H
      have H := H1
      clear H1
      obtain rfl := Option.some.inj H
      go_enter Tryd.func45, Tryd.ntmps45
      go_wp2_with (first | ((with_reducible refine gate_callee (f := 63) rfl ?_); refine goesL_ (some 8) rfl rfl Tryd.func63 (by kernel_rfl) rfl #[.int .i64 a0] rfl (by (try simp only [List.map_toArray, List.map_cons, List.map_nil]); first | done | rfl | (simp only [List.length_drop, List.length_take]; rfl)) ?_; (with_reducible refine (cmp_isNaN_int.calls a0 false _ A3.out).mono ?_); rintro e w' ⟨rfl, ⟨nd, rfl⟩⟩; refine ⟨_, rfl, ?_⟩) | ((with_reducible refine gate_callee (f := 63) rfl ?_); refine goesL_ (some 10) rfl rfl Tryd.func63 (by kernel_rfl) rfl #[.int .i64 a1] rfl (by (try simp only [List.map_toArray, List.map_cons, List.map_nil]); first | done | rfl | (simp only [List.length_drop, List.length_take]; rfl)) ?_; (with_reducible refine (cmp_isNaN_int.calls a1 true _ A4.out).mono ?_); rintro e w' ⟨rfl, ⟨nd, rfl⟩⟩; refine ⟨_, rfl, ?_⟩))
      go_ret
      exact ⟨by first | rfl | (simp; done) | (simp [*]; done), by repeat (first | exact Drawn0.refl _ | apply Drawn0.step)⟩
    · replace c7 := Bool.eq_false_iff.mpr c7
      subst c7
      have H1 : (if a0 < a1 then (some (-1)) else (if a0 > a1 then (some 1) else (some 0))) = some r := by rw [if_neg (show ¬ (false = true) by decide)] at H; exact H
      clear H
      have H := H1
      clear H1
      by_cases c8 : a0 < a1
      · rw [if_pos c8] at H
        have c8b0 : decide (a0 < a1) = true := decide_eq_true c8
        clear c8
        obtain rfl := Option.some.inj H
        go_enter Tryd.func45, Tryd.ntmps45
        go_wp2_with (first | ((with_reducible refine gate_callee (f := 63) rfl ?_); refine goesL_ (some 8) rfl rfl Tryd.func63 (by kernel_rfl) rfl #[.int .i64 a0] rfl (by (try simp only [List.map_toArray, List.map_cons, List.map_nil]); first | done | rfl | (simp only [List.length_drop, List.length_take]; rfl)) ?_; (with_reducible refine (cmp_isNaN_int.calls a0 false _ A3.out).mono ?_); rintro e w' ⟨rfl, ⟨nd, rfl⟩⟩; refine ⟨_, rfl, ?_⟩) | ((with_reducible refine gate_callee (f := 63) rfl ?_); refine goesL_ (some 10) rfl rfl Tryd.func63 (by kernel_rfl) rfl #[.int .i64 a1] rfl (by (try simp only [List.map_toArray, List.map_cons, List.map_nil]); first | done | rfl | (simp only [List.length_drop, List.length_take]; rfl)) ?_; (with_reducible refine (cmp_isNaN_int.calls a1 false _ A4.out).mono ?_); rintro e w' ⟨rfl, ⟨nd, rfl⟩⟩; refine ⟨_, rfl, ?_⟩))
        go_ret
        exact ⟨by first | rfl | (simp; done) | (simp [*]; done), by repeat (first | exact Drawn0.refl _ | apply Drawn0.step)⟩
      · rw [if_neg c8] at H
        have c8b0 : decide (a0 < a1) = false := decide_eq_false c8
        clear c8
        by_cases c9 : a0 > a1
        · rw [if_pos c9] at H
          have c9b0 : decide (a1 < a0) = true := decide_eq_true c9
          clear c9
          obtain rfl := Option.some.inj H
          go_enter Tryd.func45, Tryd.ntmps45
          go_wp2_with (first | ((with_reducible refine gate_callee (f := 63) rfl ?_); refine goesL_ (some 8) rfl rfl Tryd.func63 (by kernel_rfl) rfl #[.int .i64 a0] rfl (by (try simp only [List.map_toArray, List.map_cons, List.map_nil]); first | done | rfl | (simp only [List.length_drop, List.length_take]; rfl)) ?_; (with_reducible refine (cmp_isNaN_int.calls a0 false _ A3.out).mono ?_); rintro e w' ⟨rfl, ⟨nd, rfl⟩⟩; refine ⟨_, rfl, ?_⟩) | ((with_reducible refine gate_callee (f := 63) rfl ?_); refine goesL_ (some 10) rfl rfl Tryd.func63 (by kernel_rfl) rfl #[.int .i64 a1] rfl (by (try simp only [List.map_toArray, List.map_cons, List.map_nil]); first | done | rfl | (simp only [List.length_drop, List.length_take]; rfl)) ?_; (with_reducible refine (cmp_isNaN_int.calls a1 false _ A4.out).mono ?_); rintro e w' ⟨rfl, ⟨nd, rfl⟩⟩; refine ⟨_, rfl, ?_⟩))
          go_ret
          exact ⟨by first | rfl | (simp; done) | (simp [*]; done), by repeat (first | exact Drawn0.refl _ | apply Drawn0.step)⟩
        · rw [if_neg c9] at H
          have c9b0 : decide (a1 < a0) = false := decide_eq_false c9
          clear c9
          obtain rfl := Option.some.inj H
          go_enter Tryd.func45, Tryd.ntmps45
          go_wp2_with (first | ((with_reducible refine gate_callee (f := 63) rfl ?_); refine goesL_ (some 8) rfl rfl Tryd.func63 (by kernel_rfl) rfl #[.int .i64 a0] rfl (by (try simp only [List.map_toArray, List.map_cons, List.map_nil]); first | done | rfl | (simp only [List.length_drop, List.length_take]; rfl)) ?_; (with_reducible refine (cmp_isNaN_int.calls a0 false _ A3.out).mono ?_); rintro e w' ⟨rfl, ⟨nd, rfl⟩⟩; refine ⟨_, rfl, ?_⟩) | ((with_reducible refine gate_callee (f := 63) rfl ?_); refine goesL_ (some 10) rfl rfl Tryd.func63 (by kernel_rfl) rfl #[.int .i64 a1] rfl (by (try simp only [List.map_toArray, List.map_cons, List.map_nil]); first | done | rfl | (simp only [List.length_drop, List.length_take]; rfl)) ?_; (with_reducible refine (cmp_isNaN_int.calls a1 false _ A4.out).mono ?_); rintro e w' ⟨rfl, ⟨nd, rfl⟩⟩; refine ⟨_, rfl, ?_⟩))
          go_ret
          exact ⟨by first | rfl | (simp; done) | (simp [*]; done), by repeat (first | exact Drawn0.refl _ | apply Drawn0.step)⟩
end Go.Proofs.YtpijehmhgjkkoaaDoor.Q
namespace Go.Proofs.YtpijehmhgjkkoaaDoor.Q
open Go.RowKit Go.Proofs.YtpijehmhgjkkoaaDoorW.PrintWords Go.Proofs.YtpijehmhgjkkoaaDoorW.PrintLast Go.Proofs.YtpijehmhgjkkoaaDoorW.PrintMore
attribute [local go_sem] max2_int min2_int max_two min_two max_three min_three max_four min_four   -- for this text's walks alone
set_option linter.unusedVariables false
set_option linter.unusedSimpArgs false

-- HANDPART strings_Compare.lean
/-! ### strings_Compare: by hand -/
def strings_Compare.f (a0 a1 : ByteArray) : Option Int := some (Lib.compareBytes a0.data.toList a1.data.toList)
theorem strings_Compare.calls (a0 a1 : ByteArray) (r : Int) (w : World) (h : strings_Compare.f a0 a1 = some r) :
    Calls Tryd.prog 46 #[.string a0, .string a1] w fun e w' => e = .returned (.int .i64 r) ∧ Drawn0 w w' := by
  obtain rfl := Option.some.inj h
  exact (Tryd.strings_Compare a0 a1 w).mono fun e w' ⟨h1, h2⟩ => ⟨h1, h2 ▸ Drawn0.refl _⟩
end Go.Proofs.YtpijehmhgjkkoaaDoor.Q
namespace Go.Proofs.YtpijehmhgjkkoaaDoor.Q
open Go.RowKit Go.Proofs.YtpijehmhgjkkoaaDoorW.PrintWords Go.Proofs.YtpijehmhgjkkoaaDoorW.PrintLast Go.Proofs.YtpijehmhgjkkoaaDoorW.PrintMore
attribute [local go_sem] max2_int min2_int max_two min_two max_three min_three max_four min_four   -- for this text's walks alone
set_option linter.unusedVariables false
set_option linter.unusedSimpArgs false
/-! ### ver_number: function 29 -/
def ver_number.f (k : Nat) (a0 : ByteArray) (a1 : ByteArray) : Option (Int) := (ver_bare.f a0).bind fun t193 => ((ver_bare.f a1).bind fun t194 => ((cmp_Compare_int.f (t193.size : Int) (t194.size : Int)).bind fun t195 => ((strings_Compare.f t193 t194).bind fun t196 => ((cmp_Or_int.f k (([t195, t196] : List Int))).bind fun t200 => (some t200)))))
theorem ver_number.mono : ∀ a0 a1 k, LeO (ver_number.f k a0 a1) (ver_number.f (k + 1) a0 a1) := by
  intro a0 a1 k
  unfold ver_number.f
  repeat' first
      | (with_reducible exact cmp_Or_int.mono _ _)
      | (with_reducible exact LeO.refl _)
      | (with_reducible exact LeO.none _)
      | (with_reducible refine LeO.ite ?_ ?_)
      | (with_reducible refine LeO.bind ?_ (fun _ => ?_))
      | exact cmp_Or_int.mono _ _
      | exact LeO.none _
      | refine LeO.ite ?_ ?_
      | refine LeO.bind ?_ (fun _ => ?_)
set_option maxHeartbeats 8000000 in
set_option maxRecDepth 100000 in
theorem ver_number.calls (k : Nat) (a0 : ByteArray) (a1 : ByteArray) (r : Int) (w : World) (h : ver_number.f k a0 a1 = some r) :
    Calls Tryd.prog 29 #[.string a0, .string a1] w fun e w' => e = .returned (.int .i64 r) ∧ Below w.heap.size w w' := by
  have HB := Aside0.mk (Below.refl w.heap.size w)
  have H : ((ver_bare.f a0).bind fun t193 => ((ver_bare.f a1).bind fun t194 => ((cmp_Compare_int.f (t193.size : Int) (t194.size : Int)).bind fun t195 => ((strings_Compare.f t193 t194).bind fun t196 => ((cmp_Or_int.f k (([t195, t196] : List Int))).bind fun t200 => (some t200)))))) = some r := h
  clear h
  replace H := Option.bind_eq_some_iff.mp H
  obtain ⟨t193, A30, H⟩ := H
  replace H : ((ver_bare.f a1).bind fun t194 => ((cmp_Compare_int.f (t193.size : Int) (t194.size : Int)).bind fun t195 => ((strings_Compare.f t193 t194).bind fun t196 => ((cmp_Or_int.f k (([t195, t196] : List Int))).bind fun t200 => (some t200))))) = some r := H
  have A3 := Aside0.mk A30
  clear A30
  replace H := Option.bind_eq_some_iff.mp H
  obtain ⟨t194, A40, H⟩ := H
  replace H : ((cmp_Compare_int.f (t193.size : Int) (t194.size : Int)).bind fun t195 => ((strings_Compare.f t193 t194).bind fun t196 => ((cmp_Or_int.f k (([t195, t196] : List Int))).bind fun t200 => (some t200)))) = some r := H
  have A4 := Aside0.mk A40
  clear A40
  replace H := Option.bind_eq_some_iff.mp H
  obtain ⟨t195, A50, H⟩ := H
  replace H : ((strings_Compare.f t193 t194).bind fun t196 => ((cmp_Or_int.f k (([t195, t196] : List Int))).bind fun t200 => (some t200))) = some r := H
  have A5 := Aside0.mk A50
  clear A50
  replace H := Option.bind_eq_some_iff.mp H
  obtain ⟨t196, A60, H⟩ := H
  replace H : ((cmp_Or_int.f k (([t195, t196] : List Int))).bind fun t200 => (some t200)) = some r := H
  have A6 := Aside0.mk A60
  clear A60
  obtain ⟨y197, hy197⟩ : ∃ y_ : List Int, y_ = (([t195, t196] : List Int)) := ⟨_, rfl⟩
  replace H : ((cmp_Or_int.f k y197).bind fun t200 => (some t200)) = some r := by first | (rw [hy197]; with_reducible exact H) | (have H2_ := (Option.bind_some _ _).symm.trans H; rw [hy197]; with_reducible exact H2_) | (have H2_ := (Option.bind_some _ _).symm.trans H; with_reducible exact H2_) | with_reducible exact H | (rw [hy197]; exact H) | exact H
  have Ny197 := Aside0.mk hy197
  clear hy197
  replace H := Option.bind_eq_some_iff.mp H
  obtain ⟨t200, A70, H⟩ := H
  replace H : (some t200) = some r := H
  have A7 := Aside0.mk A70
  clear A70
  obtain rfl := Option.some.inj H
  go_enter Tryd.func29, Tryd.ntmps29
  go_wp2_with (first | ((with_reducible refine gate_callee (f := 20) rfl ?_); refine goesL_ (some 6) rfl rfl Tryd.func20 (by kernel_rfl) rfl #[.string a0] rfl (by (try simp only [List.map_toArray, List.map_cons, List.map_nil]); first | done | rfl | (simp only [List.length_drop, List.length_take]; rfl)) ?_; (with_reducible refine (ver_bare.calls a0 t193 _ A3.out).mono ?_); rintro e w8 ⟨rfl, hb⟩; refine ⟨_, rfl, ?_⟩; have n0_ := Aside0.mk (below_step (by repeat (first | (with_reducible first | exact HB.out | apply below_alloc | apply pw_below_drewN | apply below_drew1) | exact HB.out)) hb); clear HB; have HB := n0_; clear n0_; (try clear hb); (try clear hb2); (try clear hk); (try clear hi)) | ((with_reducible refine gate_callee (f := 20) rfl ?_); refine goesL_ (some 8) rfl rfl Tryd.func20 (by kernel_rfl) rfl #[.string a1] rfl (by (try simp only [List.map_toArray, List.map_cons, List.map_nil]); first | done | rfl | (simp only [List.length_drop, List.length_take]; rfl)) ?_; (with_reducible refine (ver_bare.calls a1 t194 _ A4.out).mono ?_); rintro e w9 ⟨rfl, hb⟩; refine ⟨_, rfl, ?_⟩; have n0_ := Aside0.mk (below_step (by repeat (first | (with_reducible first | exact HB.out | apply below_alloc | apply pw_below_drewN | apply below_drew1) | exact HB.out)) hb); clear HB; have HB := n0_; clear n0_; (try clear hb); (try clear hb2); (try clear hk); (try clear hi)) | ((with_reducible refine gate_callee (f := 45) rfl ?_); refine goesL_ (some 13) rfl rfl Tryd.func45 (by kernel_rfl) rfl #[.int .i64 (t193.size : Int), .int .i64 (t194.size : Int)] rfl (by (try simp only [List.map_toArray, List.map_cons, List.map_nil]); first | done | rfl | (simp only [List.length_drop, List.length_take]; rfl)) ?_; (with_reducible refine (cmp_Compare_int.calls (t193.size : Int) (t194.size : Int) t195 _ A5.out).mono ?_); rintro e w' ⟨rfl, ⟨nd, rfl⟩⟩; refine ⟨_, rfl, ?_⟩) | ((with_reducible refine gate_callee (f := 46) rfl ?_); refine goesL_ (some 16) rfl rfl Tryd.func46 (by kernel_rfl) rfl #[.string t193, .string t194] rfl (by (try simp only [List.map_toArray, List.map_cons, List.map_nil]); first | done | rfl | (simp only [List.length_drop, List.length_take]; rfl)) ?_; (with_reducible refine (strings_Compare.calls t193 t194 t196 _ A6.out).mono ?_); rintro e w' ⟨rfl, ⟨nd, rfl⟩⟩; refine ⟨_, rfl, ?_⟩) | ((with_reducible refine gate_dst (N := 17) rfl ?_); refine Kd.R_lit (Kd.int .i64) _ 3 ?hg (N := 17) ?hd (xs := ([t195, t196] : List Int)) (inner := [.int .i64 t195, .int .i64 t196]) (ok := fun _ => True) (okp := fun _ => True) ?hr ?hp (fun _ hk => hk) trivial (Below.refl _ _) (Nat.le_refl _) (by simp) ?_; (case hd => rfl); (case hg => rfl); (case hr => first | (go_simp; done) | (go_simp; rfl)); (case hp => exact (Reps.one (show Kd.M (Kd.int .i64) _ _ _ t195 [.int .i64 t195] from rfl) (Reps.one (show Kd.M (Kd.int .i64) _ _ _ t196 [.int .i64 t196] from rfl) (Reps.none _ _)))); intro v198 w10 ho11 hb hg_ hnew_; clear hg_ hnew_; (first | rw [← Ny197.out] at ho11 | (simp only [Int.reduceToNat] at ho11; rw [← Ny197.out] at ho11)); have n0_ := Aside0.mk (Kd.R_lower ho11 (below_size (by repeat (first | (with_reducible first | exact HB.out | apply below_alloc | apply pw_below_drewN | apply below_drew1) | exact HB.out)))); have n1_ := Aside0.mk (below_step (by repeat (first | (with_reducible first | exact HB.out | apply below_alloc | apply pw_below_drewN | apply below_drew1) | exact HB.out)) hb); clear HB; have HO199 := n0_; have HB := n1_; clear n0_ n1_; clear hb ho11; obtain ⟨Ao12, co12, eo12⟩ := Kd.R_slice HO199.out; subst eo12) | ((with_reducible refine gate_callee (f := 28) rfl ?_); refine goesL_ (some 18) rfl rfl Tryd.func28 (by kernel_rfl) rfl #[.slice Ao12 y197.length co12] rfl (by (try simp only [List.map_toArray, List.map_cons, List.map_nil]); first | done | rfl | (simp only [List.length_drop, List.length_take]; rfl)) ?_; (with_reducible refine (cmp_Or_int.calls k _ _ y197 t200 _ ?side1 ?side2 A7.out).mono ?_); (case side1 => repeat (first | exact (Kd.R_reads' HO199.out).2.2 | (with_reducible refine Kd.C_alloc ?_ _) | (with_reducible refine Kd.C_drewN ?_ _) | (with_reducible refine Kd.C_drew ?_))); (case side2 => exact (Kd.R_reads' HO199.out).2.1); rintro e w' ⟨rfl, ⟨nd, rfl⟩⟩; refine ⟨_, rfl, ?_⟩))
  go_ret
  exact ⟨by first | rfl | (simp [errW_none, errW_some] <;> rfl) | (simp [*, errW_none, errW_some] <;> rfl), by repeat (first | (with_reducible first | exact HB.out | apply below_alloc | apply pw_below_drewN | apply below_drew1) | exact HB.out)⟩
end Go.Proofs.YtpijehmhgjkkoaaDoor.Q
namespace Go.Proofs.YtpijehmhgjkkoaaDoor.Q
open Go.RowKit Go.Proofs.YtpijehmhgjkkoaaDoorW.PrintWords Go.Proofs.YtpijehmhgjkkoaaDoorW.PrintLast Go.Proofs.YtpijehmhgjkkoaaDoorW.PrintMore
attribute [local go_sem] max2_int min2_int max_two min_two max_three min_three max_four min_four   -- for this text's walks alone
set_option linter.unusedVariables false
set_option linter.unusedSimpArgs false
/-! ### ver_weight: function 65 -/
def ver_weight.f (a0 : ByteArray) (a1 : Int) : Option (Int) := if a1 ≥ (a0.size : Int) then (some 1) else (if 0 ≤ a1 then (if a1 < (a0.size : Int) then (if (bt a0 a1) = 126 then (some 0) else ((ver_letter.f (bt a0 a1)).bind fun t201 => (if t201 = true then (some (wrap64 (2 + (wrap64 (bt a0 a1))))) else (some (wrap64 (1000 + (wrap64 (bt a0 a1)))))))) else (none)) else (none))
set_option maxHeartbeats 8000000 in
set_option maxRecDepth 100000 in
theorem ver_weight.calls (a0 : ByteArray) (a1 : Int) (r : Int) (w : World) (h : ver_weight.f a0 a1 = some r) :
    Calls Tryd.prog 65 #[.string a0, .int .i64 a1] w fun e w' => e = .returned (.int .i64 r) ∧ Drawn0 w w' := by
  have H : (if a1 ≥ (a0.size : Int) then (some 1) else (if 0 ≤ a1 then (if a1 < (a0.size : Int) then (if (bt a0 a1) = 126 then (some 0) else ((ver_letter.f (bt a0 a1)).bind fun t201 => (if t201 = true then (some (wrap64 (2 + (wrap64 (bt a0 a1))))) else (some (wrap64 (1000 + (wrap64 (bt a0 a1)))))))) else (none)) else (none))) = some r := h
  clear h
  by_cases c3 : a1 ≥ (a0.size : Int)
  · rw [if_pos c3] at H
    have c3b0 : decide ((a0.size : Int) ≤ a1) = true := decide_eq_true c3
    clear c3
    obtain rfl := Option.some.inj H
    go_enter Tryd.func65, Tryd.ntmps65
    go_wp2
    go_ret
    exact ⟨by first | rfl | (simp; done) | (simp [*]; done), by repeat (first | exact Drawn0.refl _ | apply Drawn0.step)⟩
  · rw [if_neg c3] at H
    have c3b0 : decide ((a0.size : Int) ≤ a1) = false := decide_eq_false c3
    clear c3
    by_cases c4 : 0 ≤ a1
    · rw [if_pos c4] at H
      have c4b0 : decide (0 ≤ a1) = true := decide_eq_true c4
      clear c4
      by_cases c5 : a1 < (a0.size : Int)
      · rw [if_pos c5] at H
        have c5b0 : decide (a1 < (a0.size : Int)) = true := decide_eq_true c5
        clear c5
        by_cases c7 : (bt a0 a1) = 126
        · rw [if_pos c7] at H
          have c7b0 : ((bt a0 a1) == 126) = true := beq_iff_eq.mpr c7
          have c7b1 : ((bt a0 a1) != 126) = false := bne_eq_false_iff_eq.mpr c7
          clear c7
          obtain rfl := Option.some.inj H
          have p6 : 0 ≤ (a1 : Int) := of_decide_eq_true (by first | (with_reducible assumption) | assumption)
          have q6 : a1 < (a0.size : Int) := of_decide_eq_true (by first | (with_reducible assumption) | assumption)
          have hx6 := bt_at a0 a1
          replace p6 := eq_true p6
          replace q6 := eq_true q6
          go_enter Tryd.func65, Tryd.ntmps65
          go_wp2
          go_ret
          exact ⟨by first | rfl | (simp; done) | (simp [*]; done), by repeat (first | exact Drawn0.refl _ | apply Drawn0.step)⟩
        · rw [if_neg c7] at H
          have c7b0 : ((bt a0 a1) == 126) = false := beq_eq_false_iff_ne.mpr c7
          have c7b1 : ((bt a0 a1) != 126) = true := bne_iff_ne.mpr c7
          replace H := Option.bind_eq_some_iff.mp H
          obtain ⟨t201, A90, H⟩ := H
          replace H : (if t201 = true then (some (wrap64 (2 + (wrap64 (bt a0 a1))))) else (some (wrap64 (1000 + (wrap64 (bt a0 a1)))))) = some r := H
          have A9 := Aside0.mk A90
          clear A90
          by_cases c10 : t201 = true
          · subst c10
            have H1 : (some (wrap64 (2 + (wrap64 (bt a0 a1))))) = some r := by rw [if_pos rfl] at H; exact H
            clear H
            have H := H1
            clear H1
            obtain rfl := Option.some.inj H
            have p6 : 0 ≤ (a1 : Int) := of_decide_eq_true (by first | (with_reducible assumption) | assumption)
            have q6 : a1 < (a0.size : Int) := of_decide_eq_true (by first | (with_reducible assumption) | assumption)
            have hx6 := bt_at a0 a1
            replace p6 := eq_true p6
            replace q6 := eq_true q6
            have p8 : 0 ≤ (a1 : Int) := of_decide_eq_true (by first | (with_reducible assumption) | assumption)
            have q8 : a1 < (a0.size : Int) := of_decide_eq_true (by first | (with_reducible assumption) | assumption)
            have hx8 := bt_at a0 a1
            replace p8 := eq_true p8
            replace q8 := eq_true q8
            go_enter Tryd.func65, Tryd.ntmps65
            go_wp2_with (first | ((with_reducible refine gate_callee (f := 58) rfl ?_); refine goesL_ (some 19) rfl rfl Tryd.func58 (by kernel_rfl) rfl #[.int .u8 (bt a0 a1)] rfl (by (try simp only [List.map_toArray, List.map_cons, List.map_nil]); first | done | rfl | (simp only [List.length_drop, List.length_take]; rfl)) ?_; (with_reducible refine (ver_letter.calls (bt a0 a1) true _ A9.out).mono ?_); rintro e w' ⟨rfl, ⟨nd, rfl⟩⟩; refine ⟨_, rfl, ?_⟩; have p11 : 0 ≤ (a1 : Int) := of_decide_eq_true (by first | (with_reducible assumption) | assumption); have q11 : a1 < (a0.size : Int) := of_decide_eq_true (by first | (with_reducible assumption) | assumption); have hx11 := bt_at a0 a1; replace p11 := eq_true p11; replace q11 := eq_true q11))
            go_ret
            exact ⟨by first | rfl | (simp; done) | (simp [*]; done), by repeat (first | exact Drawn0.refl _ | apply Drawn0.step)⟩
          · replace c10 := Bool.eq_false_iff.mpr c10
            subst c10
            have H1 : (some (wrap64 (1000 + (wrap64 (bt a0 a1))))) = some r := by rw [if_neg (show ¬ (false = true) by decide)] at H; exact H
            clear H
            have H := H1
            clear H1
            obtain rfl := Option.some.inj H
            have p6 : 0 ≤ (a1 : Int) := of_decide_eq_true (by first | (with_reducible assumption) | assumption)
            have q6 : a1 < (a0.size : Int) := of_decide_eq_true (by first | (with_reducible assumption) | assumption)
            have hx6 := bt_at a0 a1
            replace p6 := eq_true p6
            replace q6 := eq_true q6
            have p8 : 0 ≤ (a1 : Int) := of_decide_eq_true (by first | (with_reducible assumption) | assumption)
            have q8 : a1 < (a0.size : Int) := of_decide_eq_true (by first | (with_reducible assumption) | assumption)
            have hx8 := bt_at a0 a1
            replace p8 := eq_true p8
            replace q8 := eq_true q8
            go_enter Tryd.func65, Tryd.ntmps65
            go_wp2_with (first | ((with_reducible refine gate_callee (f := 58) rfl ?_); refine goesL_ (some 19) rfl rfl Tryd.func58 (by kernel_rfl) rfl #[.int .u8 (bt a0 a1)] rfl (by (try simp only [List.map_toArray, List.map_cons, List.map_nil]); first | done | rfl | (simp only [List.length_drop, List.length_take]; rfl)) ?_; (with_reducible refine (ver_letter.calls (bt a0 a1) false _ A9.out).mono ?_); rintro e w' ⟨rfl, ⟨nd, rfl⟩⟩; refine ⟨_, rfl, ?_⟩; have p12 : 0 ≤ (a1 : Int) := of_decide_eq_true (by first | (with_reducible assumption) | assumption); have q12 : a1 < (a0.size : Int) := of_decide_eq_true (by first | (with_reducible assumption) | assumption); have hx12 := bt_at a0 a1; replace p12 := eq_true p12; replace q12 := eq_true q12))
            go_ret
            exact ⟨by first | rfl | (simp; done) | (simp [*]; done), by repeat (first | exact Drawn0.refl _ | apply Drawn0.step)⟩
      · rw [if_neg c5] at H
        exact absurd H (by simp)
    · rw [if_neg c4] at H
      exact absurd H (by simp)
end Go.Proofs.YtpijehmhgjkkoaaDoor.Q
namespace Go.Proofs.YtpijehmhgjkkoaaDoor.Q
open Go.RowKit Go.Proofs.YtpijehmhgjkkoaaDoorW.PrintWords Go.Proofs.YtpijehmhgjkkoaaDoorW.PrintLast Go.Proofs.YtpijehmhgjkkoaaDoorW.PrintMore
attribute [local go_sem] max2_int min2_int max_two min_two max_three min_three max_four min_four   -- for this text's walks alone
set_option linter.unusedVariables false
set_option linter.unusedSimpArgs false
/-! ### ver_words: function 47 -/
def ver_words.l0 : Nat → ByteArray → ByteArray → Int → Int → Option (Int)
  | 0, _, _, _, _ => none
  | k + 1, x0, x1, x11, x12 => if x12 < x11 then ((ver_weight.f x0 x12).bind fun t202 => ((ver_weight.f x1 x12).bind fun t203 => ((cmp_Compare_int.f t202 t203).bind fun t204 => (if t204 = 0 then (ver_words.l0 k x0 x1 x11 (wrap64 (x12 + 1))) else (some t204))))) else (some 0)
def ver_words.f (k : Nat) (a0 : ByteArray) (a1 : ByteArray) : Option (Int) := ver_words.l0 k a0 a1 (mx (a0.size : Int) (a1.size : Int)) 0
theorem ver_words.mono_l : ∀ k, (∀ y0 y1 y2 y3, LeO (ver_words.l0 k y0 y1 y2 y3) (ver_words.l0 (k + 1) y0 y1 y2 y3))
  | 0 => fun _ _ _ _ r h => by simp [ver_words.l0] at h
  | k + 1 => by
    have ih0 := ver_words.mono_l k
    · intro y0 y1 y2 y3
      unfold ver_words.l0
      repeat' first
      | (with_reducible exact ih0 _ _ _ _)
      | (with_reducible exact LeO.refl _)
      | (with_reducible exact LeO.none _)
      | (with_reducible refine LeO.ite ?_ ?_)
      | (with_reducible refine LeO.bind ?_ (fun _ => ?_))
      | exact ih0 _ _ _ _
      | exact LeO.none _
      | refine LeO.ite ?_ ?_
      | refine LeO.bind ?_ (fun _ => ?_)
theorem ver_words.mono : ∀ a0 a1 k, LeO (ver_words.f k a0 a1) (ver_words.f (k + 1) a0 a1) := by
  intro a0 a1 k
  have ih0 := ver_words.mono_l k
  unfold ver_words.f
  repeat' first
      | (with_reducible exact ih0 _ _ _ _)
      | (with_reducible exact LeO.refl _)
      | (with_reducible exact LeO.none _)
      | (with_reducible refine LeO.ite ?_ ?_)
      | (with_reducible refine LeO.bind ?_ (fun _ => ?_))
      | exact ih0 _ _ _ _
      | exact LeO.none _
      | refine LeO.ite ?_ ?_
      | refine LeO.bind ?_ (fun _ => ?_)
set_option maxHeartbeats 8000000 in
set_option maxRecDepth 100000 in
theorem ver_words.calls (k : Nat) (a0 : ByteArray) (a1 : ByteArray) (r : Int) (w : World) (h : ver_words.f k a0 a1 = some r) :
    Calls Tryd.prog 47 #[.string a0, .string a1] w fun e w' => e = .returned (.int .i64 r) ∧ Below w.heap.size w w' := by
  have HB := Aside0.mk (Below.refl w.heap.size w)
  have H : (ver_words.l0 k a0 a1 (mx (a0.size : Int) (a1.size : Int)) 0) = some r := h
  clear h
  obtain ⟨ji3, hji3⟩ : ∃ j_ : Int, (mx (a0.size : Int) (a1.size : Int)) = j_ := ⟨_, rfl⟩
  replace H : (ver_words.l0 k a0 a1 ji3 0) = some r := by first | (rw [hji3] at H; exact H) | (simp only [hji3] at H ⊢; exact H)
  (try (have hji3l : 0 ≤ ji3 := by (rw [← hji3]; unfold mx; (repeat' split) <;> omega)))
  (try (have hji3m : 0 ≤ ji3 := by omega))
  have hji3_ : (if (a0.size : Int) < (a1.size : Int) then (a1.size : Int) else (a0.size : Int)) = ji3 := hji3
  have hji3n : (if a0.size < a1.size then (a1.size : Int) else (a0.size : Int)) = ji3 := by have h_ := hji3_; simp only [Int.ofNat_lt] at h_; exact h_
  have H' := Aside0.mk H
  clear H
  go_enter Tryd.func47, Tryd.ntmps47
  go_wp2
  go_loopg [12] k (fun kq v12 w' => ∃ (x12_1 : Int), v12 = .int .i64 x12_1 ∧ Aside0 (ver_words.l0 kq a0 a1 ji3 x12_1 = some r) ∧ Aside0 (kq ≤ k) ∧ Aside0 (Below w.heap.size w w'))
  case atStart => exact ⟨(0), (by first | rfl | (simp; done) | (simp [*]; done)), H', ⟨Nat.le_refl _⟩, ⟨by repeat (first | (with_reducible first | exact HB.out | apply below_alloc | apply pw_below_drewN | apply below_drew1) | exact HB.out)⟩⟩
  case round =>
    clear H'
    try clear p2
    obtain ⟨x12_1, rfl, HA, HK1, HB⟩ := hrel
    cases gk with
    | zero => exact absurd HA.out (by simp [ver_words.l0])
    | succ k1 =>
      have H := HA.out
      clear HA
      simp only [ver_words.l0] at H
      by_cases c4 : x12_1 < ji3
      · rw [if_pos c4] at H
        have c4b0 : decide (x12_1 < ji3) = true := decide_eq_true c4
        clear c4
        replace H := Option.bind_eq_some_iff.mp H
        obtain ⟨t202, A50, H⟩ := H
        replace H : ((ver_weight.f a1 x12_1).bind fun t203 => ((cmp_Compare_int.f t202 t203).bind fun t204 => (if t204 = 0 then (ver_words.l0 k1 a0 a1 ji3 (wrap64 (x12_1 + 1))) else (some t204)))) = some r := H
        have A5 := Aside0.mk A50
        clear A50
        replace H := Option.bind_eq_some_iff.mp H
        obtain ⟨t203, A60, H⟩ := H
        replace H : ((cmp_Compare_int.f t202 t203).bind fun t204 => (if t204 = 0 then (ver_words.l0 k1 a0 a1 ji3 (wrap64 (x12_1 + 1))) else (some t204))) = some r := H
        have A6 := Aside0.mk A60
        clear A60
        replace H := Option.bind_eq_some_iff.mp H
        obtain ⟨t204, A70, H⟩ := H
        replace H : (if t204 = 0 then (ver_words.l0 k1 a0 a1 ji3 (wrap64 (x12_1 + 1))) else (some t204)) = some r := H
        have A7 := Aside0.mk A70
        clear A70
        by_cases c8 : t204 = 0
        · rw [if_pos c8] at H
          have c8b0 : (t204 == 0) = true := beq_iff_eq.mpr c8
          have c8b1 : (t204 != 0) = false := bne_eq_false_iff_eq.mpr c8
          clear c8
          have H' := Aside0.mk H
          clear H
          go_wp2_with (first | ((with_reducible refine gate_callee (f := 65) rfl ?_); refine goesL_ (some 17) rfl rfl Tryd.func65 (by kernel_rfl) rfl #[.string a0, .int .i64 x12_1] rfl (by (try simp only [List.map_toArray, List.map_cons, List.map_nil]); first | done | rfl | (simp only [List.length_drop, List.length_take]; rfl)) ?_; (with_reducible refine (ver_weight.calls a0 x12_1 t202 _ A5.out).mono ?_); rintro e w' ⟨rfl, ⟨nd, rfl⟩⟩; refine ⟨_, rfl, ?_⟩) | ((with_reducible refine gate_callee (f := 65) rfl ?_); refine goesL_ (some 20) rfl rfl Tryd.func65 (by kernel_rfl) rfl #[.string a1, .int .i64 x12_1] rfl (by (try simp only [List.map_toArray, List.map_cons, List.map_nil]); first | done | rfl | (simp only [List.length_drop, List.length_take]; rfl)) ?_; (with_reducible refine (ver_weight.calls a1 x12_1 t203 _ A6.out).mono ?_); rintro e w' ⟨rfl, ⟨nd, rfl⟩⟩; refine ⟨_, rfl, ?_⟩) | ((with_reducible refine gate_callee (f := 45) rfl ?_); refine goesL_ (some 21) rfl rfl Tryd.func45 (by kernel_rfl) rfl #[.int .i64 t202, .int .i64 t203] rfl (by (try simp only [List.map_toArray, List.map_cons, List.map_nil]); first | done | rfl | (simp only [List.length_drop, List.length_take]; rfl)) ?_; (with_reducible refine (cmp_Compare_int.calls t202 t203 t204 _ A7.out).mono ?_); rintro e w' ⟨rfl, ⟨nd, rfl⟩⟩; refine ⟨_, rfl, ?_⟩))
          go_roundg k1
          case measure => have := HK1.out; omega
          case rel => exact ⟨(wrap64 (x12_1 + 1)), (by first | rfl | (simp; done) | (simp [*]; done)), H', ⟨by have := HK1.out; omega⟩, ⟨by repeat (first | (with_reducible first | exact HB.out | apply below_alloc | apply pw_below_drewN | apply below_drew1) | exact HB.out)⟩⟩
        · rw [if_neg c8] at H
          have c8b0 : (t204 == 0) = false := beq_eq_false_iff_ne.mpr c8
          have c8b1 : (t204 != 0) = true := bne_iff_ne.mpr c8
          obtain rfl := Option.some.inj H
          go_wp2_with (first | ((with_reducible refine gate_callee (f := 65) rfl ?_); refine goesL_ (some 17) rfl rfl Tryd.func65 (by kernel_rfl) rfl #[.string a0, .int .i64 x12_1] rfl (by (try simp only [List.map_toArray, List.map_cons, List.map_nil]); first | done | rfl | (simp only [List.length_drop, List.length_take]; rfl)) ?_; (with_reducible refine (ver_weight.calls a0 x12_1 t202 _ A5.out).mono ?_); rintro e w' ⟨rfl, ⟨nd, rfl⟩⟩; refine ⟨_, rfl, ?_⟩) | ((with_reducible refine gate_callee (f := 65) rfl ?_); refine goesL_ (some 20) rfl rfl Tryd.func65 (by kernel_rfl) rfl #[.string a1, .int .i64 x12_1] rfl (by (try simp only [List.map_toArray, List.map_cons, List.map_nil]); first | done | rfl | (simp only [List.length_drop, List.length_take]; rfl)) ?_; (with_reducible refine (ver_weight.calls a1 x12_1 t203 _ A6.out).mono ?_); rintro e w' ⟨rfl, ⟨nd, rfl⟩⟩; refine ⟨_, rfl, ?_⟩) | ((with_reducible refine gate_callee (f := 45) rfl ?_); refine goesL_ (some 21) rfl rfl Tryd.func45 (by kernel_rfl) rfl #[.int .i64 t202, .int .i64 t203] rfl (by (try simp only [List.map_toArray, List.map_cons, List.map_nil]); first | done | rfl | (simp only [List.length_drop, List.length_take]; rfl)) ?_; (with_reducible refine (cmp_Compare_int.calls t202 t203 t204 _ A7.out).mono ?_); rintro e w' ⟨rfl, ⟨nd, rfl⟩⟩; refine ⟨_, rfl, ?_⟩))
          go_ret
          exact ⟨by first | rfl | (simp [errW_none, errW_some] <;> rfl) | (simp only [← hji3]; first | rfl | (simp [errW_none, errW_some] <;> rfl)) | (simp [*, errW_none, errW_some] <;> rfl), by repeat (first | (with_reducible first | exact HB.out | apply below_alloc | apply pw_below_drewN | apply below_drew1) | exact HB.out)⟩
      · rw [if_neg c4] at H
        have c4b0 : decide (x12_1 < ji3) = false := decide_eq_false c4
        clear c4
        obtain rfl := Option.some.inj H
        go_wp2
        go_ret
        exact ⟨by first | rfl | (simp [errW_none, errW_some] <;> rfl) | (simp only [← hji3]; first | rfl | (simp [errW_none, errW_some] <;> rfl)) | (simp [*, errW_none, errW_some] <;> rfl), by repeat (first | (with_reducible first | exact HB.out | apply below_alloc | apply pw_below_drewN | apply below_drew1) | exact HB.out)⟩
end Go.Proofs.YtpijehmhgjkkoaaDoor.Q
namespace Go.Proofs.YtpijehmhgjkkoaaDoor.Q
open Go.RowKit Go.Proofs.YtpijehmhgjkkoaaDoorW.PrintWords Go.Proofs.YtpijehmhgjkkoaaDoorW.PrintLast Go.Proofs.YtpijehmhgjkkoaaDoorW.PrintMore
attribute [local go_sem] max2_int min2_int max_two min_two max_three min_three max_four min_four   -- for this text's walks alone
set_option linter.unusedVariables false
set_option linter.unusedSimpArgs false
/-! ### ver_order: function 30 -/
mutual
def ver_order.l0 : Nat → ByteArray → ByteArray → Option (Int)
  | 0, _, _ => none
  | k + 1, x0, x1 => if x0.toList = ([] : List UInt8) then (ver_order.j1 k x0 x1 (!x1.toList.isEmpty)) else (ver_order.j1 k x0 x1 true)
def ver_order.j1 : Nat → ByteArray → ByteArray → Bool → Option (Int)
  | 0, _, _, _ => none
  | k + 1, x0, x1, x17 => if x17 = true then ((ver_take.f k x0 true).bind fun bt205 => ((ver_take.f k x1 true).bind fun bt207 => ((ver_take.f k bt205.2 false).bind fun bt209 => ((ver_take.f k bt207.2 false).bind fun bt211 => ((ver_number.f k bt205.1 bt207.1).bind fun t213 => ((ver_words.f k bt209.1 bt211.1).bind fun t214 => ((cmp_Or_int.f k (([t213, t214] : List Int))).bind fun t218 => (if t218 = 0 then (ver_order.l0 k bt209.2 bt211.2) else (some t218))))))))) else (some 0)
end
def ver_order.f (k : Nat) (a0 : ByteArray) (a1 : ByteArray) : Option (Int) := ver_order.l0 k a0 a1
theorem ver_order.mono_l : ∀ k, (∀ y0 y1, LeO (ver_order.l0 k y0 y1) (ver_order.l0 (k + 1) y0 y1)) ∧ (∀ y0 y1 y2, LeO (ver_order.j1 k y0 y1 y2) (ver_order.j1 (k + 1) y0 y1 y2))
  | 0 => ⟨fun _ _ r h => by simp [ver_order.l0] at h, fun _ _ _ r h => by simp [ver_order.j1] at h⟩
  | k + 1 => by
    obtain ⟨ih0, ih1⟩ := ver_order.mono_l k
    refine ⟨?_, ?_⟩
    · intro y0 y1
      unfold ver_order.l0
      repeat' first
      | (with_reducible exact ih0 _ _)
      | (with_reducible exact ih1 _ _ _)
      | (with_reducible exact cmp_Or_int.mono _ _)
      | (with_reducible exact ver_number.mono _ _ _)
      | (with_reducible exact ver_take.mono _ _ _)
      | (with_reducible exact ver_words.mono _ _ _)
      | (with_reducible exact LeO.refl _)
      | (with_reducible exact LeO.none _)
      | (with_reducible refine LeO.ite ?_ ?_)
      | (with_reducible refine LeO.bind ?_ (fun _ => ?_))
      | exact ih0 _ _
      | exact ih1 _ _ _
      | exact cmp_Or_int.mono _ _
      | exact ver_number.mono _ _ _
      | exact ver_take.mono _ _ _
      | exact ver_words.mono _ _ _
      | exact LeO.none _
      | refine LeO.ite ?_ ?_
      | refine LeO.bind ?_ (fun _ => ?_)
    · intro y0 y1 y2
      unfold ver_order.j1
      repeat' first
      | (with_reducible exact ih0 _ _)
      | (with_reducible exact ih1 _ _ _)
      | (with_reducible exact cmp_Or_int.mono _ _)
      | (with_reducible exact ver_number.mono _ _ _)
      | (with_reducible exact ver_take.mono _ _ _)
      | (with_reducible exact ver_words.mono _ _ _)
      | (with_reducible exact LeO.refl _)
      | (with_reducible exact LeO.none _)
      | (with_reducible refine LeO.ite ?_ ?_)
      | (with_reducible refine LeO.bind ?_ (fun _ => ?_))
      | exact ih0 _ _
      | exact ih1 _ _ _
      | exact cmp_Or_int.mono _ _
      | exact ver_number.mono _ _ _
      | exact ver_take.mono _ _ _
      | exact ver_words.mono _ _ _
      | exact LeO.none _
      | refine LeO.ite ?_ ?_
      | refine LeO.bind ?_ (fun _ => ?_)
theorem ver_order.mono : ∀ a0 a1 k, LeO (ver_order.f k a0 a1) (ver_order.f (k + 1) a0 a1) := by
  intro a0 a1 k
  obtain ⟨ih0, ih1⟩ := ver_order.mono_l k
  unfold ver_order.f
  repeat' first
      | (with_reducible exact ih0 _ _)
      | (with_reducible exact ih1 _ _ _)
      | (with_reducible exact cmp_Or_int.mono _ _)
      | (with_reducible exact ver_number.mono _ _ _)
      | (with_reducible exact ver_take.mono _ _ _)
      | (with_reducible exact ver_words.mono _ _ _)
      | (with_reducible exact LeO.refl _)
      | (with_reducible exact LeO.none _)
      | (with_reducible refine LeO.ite ?_ ?_)
      | (with_reducible refine LeO.bind ?_ (fun _ => ?_))
      | exact ih0 _ _
      | exact ih1 _ _ _
      | exact cmp_Or_int.mono _ _
      | exact ver_number.mono _ _ _
      | exact ver_take.mono _ _ _
      | exact ver_words.mono _ _ _
      | exact LeO.none _
      | refine LeO.ite ?_ ?_
      | refine LeO.bind ?_ (fun _ => ?_)
set_option maxHeartbeats 8000000 in
set_option maxRecDepth 100000 in
theorem ver_order.calls (k : Nat) (a0 : ByteArray) (a1 : ByteArray) (r : Int) (w : World) (h : ver_order.f k a0 a1 = some r) :
    Calls Tryd.prog 30 #[.string a0, .string a1] w fun e w' => e = .returned (.int .i64 r) ∧ Below w.heap.size w w' := by
  have HB := Aside0.mk (Below.refl w.heap.size w)
  have H : (ver_order.l0 k a0 a1) = some r := h
  clear h
  have H' := Aside0.mk H
  clear H
  go_enter Tryd.func30, Tryd.ntmps30
  go_wp2
  go_loopg [0, 1] k (fun kq v0 v1 w' => ∃ (x0_1 : ByteArray) (x1_1 : ByteArray), v0 = .string x0_1 ∧ v1 = .string x1_1 ∧ Aside0 (ver_order.l0 kq x0_1 x1_1 = some r) ∧ Aside0 (kq ≤ k) ∧ Aside0 (Below w.heap.size w w'))
  case atStart => exact ⟨(a0), (a1), (by first | rfl | (simp; done) | (simp [*]; done)), (by first | rfl | (simp; done) | (simp [*]; done)), H', ⟨Nat.le_refl _⟩, ⟨by repeat (first | (with_reducible first | exact HB.out | apply below_alloc | apply pw_below_drewN | apply below_drew1) | exact HB.out)⟩⟩
  case round =>
    clear H'
    try clear p2
    obtain ⟨x0_1, x1_1, rfl, rfl, HA, HK1, HB⟩ := hrel
    cases gk with
    | zero => exact absurd HA.out (by simp [ver_order.l0])
    | succ k1 =>
      have H := HA.out
      clear HA
      simp only [ver_order.l0] at H
      have HC3 := Aside0.mk H
      clear H
      go_upto_region 1 with (fail)
      go_cut [17] (fun v17 wc => ∃ (kq : Nat) (x17_2 : Bool), v17 = .bool x17_2 ∧ Aside0 (ver_order.j1 kq x0_1 x1_1 x17_2 = some r) ∧ Aside0 (kq ≤ k1) ∧ Aside0 (Below w.heap.size w wc))
      case first =>
        have H := HC3.out
        clear HC3
        by_cases c4 : x0_1.toList = ([] : List UInt8)
        · rw [if_pos c4] at H
          have c4b0 : (x0_1.toList == ([] : List UInt8)) = true := beq_iff_eq.mpr c4
          have c4b1 : (x0_1.toList != ([] : List UInt8)) = false := bne_eq_false_iff_eq.mpr c4
          have c4b2 : x0_1.toList.isEmpty = true := List.isEmpty_iff.mpr c4
          clear c4
          (first | rw [c4b0] | (simp only [i64_w, i32_w]; rw [c4b0]) | rw [c4b2] | skip)
          have H' := Aside0.mk H
          clear H
          go_wp2
          go_meet
          case rel => exact ⟨_, (!x1_1.toList.isEmpty), (by first | rfl | (simp; done) | (simp [*]; done)), H', ⟨by have := HK1.out; first | omega | exact Nat.le_refl _⟩, ⟨by repeat (first | (with_reducible first | exact HB.out | apply below_alloc | apply pw_below_drewN | apply below_drew1) | exact HB.out)⟩⟩
        · rw [if_neg c4] at H
          have c4b0 : (x0_1.toList == ([] : List UInt8)) = false := beq_eq_false_iff_ne.mpr c4
          have c4b1 : (x0_1.toList != ([] : List UInt8)) = true := bne_iff_ne.mpr c4
          have c4b2 : x0_1.toList.isEmpty = false := Bool.eq_false_iff.mpr (fun h_ => c4 (List.isEmpty_iff.mp h_))
          (first | rw [c4b0] | (simp only [i64_w, i32_w]; rw [c4b0]) | rw [c4b2] | skip)
          have H' := Aside0.mk H
          clear H
          go_wp2
          go_meet
          case rel => exact ⟨_, (true), (by first | rfl | (simp; done) | (simp [*]; done)), H', ⟨by have := HK1.out; first | omega | exact Nat.le_refl _⟩, ⟨by repeat (first | (with_reducible first | exact HB.out | apply below_alloc | apply pw_below_drewN | apply below_drew1) | exact HB.out)⟩⟩
      case rest =>
        clear HC3
        try clear p2
        try clear c3
        try clear c4
        try clear c4b0
        try clear c4b1
        try clear c4b2
        try clear p2
        obtain ⟨kq, x17_2, rfl, HA, HJ2, HB⟩ := hcut
        cases kq with
        | zero => exact absurd HA.out (by simp [ver_order.j1])
        | succ kj2 =>
          have H := HA.out
          clear HA
          simp only [ver_order.j1] at H
          by_cases c5 : x17_2 = true
          · subst c5
            have H1 : ((ver_take.f kj2 x0_1 true).bind fun bt205 => ((ver_take.f kj2 x1_1 true).bind fun bt207 => ((ver_take.f kj2 bt205.2 false).bind fun bt209 => ((ver_take.f kj2 bt207.2 false).bind fun bt211 => ((ver_number.f kj2 bt205.1 bt207.1).bind fun t213 => ((ver_words.f kj2 bt209.1 bt211.1).bind fun t214 => ((cmp_Or_int.f kj2 (([t213, t214] : List Int))).bind fun t218 => (if t218 = 0 then (ver_order.l0 kj2 bt209.2 bt211.2) else (some t218))))))))) = some r := by rw [if_pos rfl] at H; exact H
            clear H
            have H := H1
            clear H1
            replace H := Option.bind_eq_some_iff.mp H
            obtain ⟨⟨t205, t206⟩, A60, H⟩ := H
            replace H : ((ver_take.f kj2 x1_1 true).bind fun bt207 => ((ver_take.f kj2 t206 false).bind fun bt209 => ((ver_take.f kj2 bt207.2 false).bind fun bt211 => ((ver_number.f kj2 t205 bt207.1).bind fun t213 => ((ver_words.f kj2 bt209.1 bt211.1).bind fun t214 => ((cmp_Or_int.f kj2 (([t213, t214] : List Int))).bind fun t218 => (if t218 = 0 then (ver_order.l0 kj2 bt209.2 bt211.2) else (some t218)))))))) = some r := H
            have A6 := Aside0.mk A60
            clear A60
            replace H := Option.bind_eq_some_iff.mp H
            obtain ⟨⟨t207, t208⟩, A70, H⟩ := H
            replace H : ((ver_take.f kj2 t206 false).bind fun bt209 => ((ver_take.f kj2 t208 false).bind fun bt211 => ((ver_number.f kj2 t205 t207).bind fun t213 => ((ver_words.f kj2 bt209.1 bt211.1).bind fun t214 => ((cmp_Or_int.f kj2 (([t213, t214] : List Int))).bind fun t218 => (if t218 = 0 then (ver_order.l0 kj2 bt209.2 bt211.2) else (some t218))))))) = some r := H
            have A7 := Aside0.mk A70
            clear A70
            replace H := Option.bind_eq_some_iff.mp H
            obtain ⟨⟨t209, t210⟩, A80, H⟩ := H
            replace H : ((ver_take.f kj2 t208 false).bind fun bt211 => ((ver_number.f kj2 t205 t207).bind fun t213 => ((ver_words.f kj2 t209 bt211.1).bind fun t214 => ((cmp_Or_int.f kj2 (([t213, t214] : List Int))).bind fun t218 => (if t218 = 0 then (ver_order.l0 kj2 t210 bt211.2) else (some t218)))))) = some r := H
            have A8 := Aside0.mk A80
            clear A80
            replace H := Option.bind_eq_some_iff.mp H
            obtain ⟨⟨t211, t212⟩, A90, H⟩ := H
            replace H : ((ver_number.f kj2 t205 t207).bind fun t213 => ((ver_words.f kj2 t209 t211).bind fun t214 => ((cmp_Or_int.f kj2 (([t213, t214] : List Int))).bind fun t218 => (if t218 = 0 then (ver_order.l0 kj2 t210 t212) else (some t218))))) = some r := H
            have A9 := Aside0.mk A90
            clear A90
            replace H := Option.bind_eq_some_iff.mp H
            obtain ⟨t213, A100, H⟩ := H
            replace H : ((ver_words.f kj2 t209 t211).bind fun t214 => ((cmp_Or_int.f kj2 (([t213, t214] : List Int))).bind fun t218 => (if t218 = 0 then (ver_order.l0 kj2 t210 t212) else (some t218)))) = some r := H
            have A10 := Aside0.mk A100
            clear A100
            replace H := Option.bind_eq_some_iff.mp H
            obtain ⟨t214, A110, H⟩ := H
            replace H : ((cmp_Or_int.f kj2 (([t213, t214] : List Int))).bind fun t218 => (if t218 = 0 then (ver_order.l0 kj2 t210 t212) else (some t218))) = some r := H
            have A11 := Aside0.mk A110
            clear A110
            obtain ⟨y215, hy215⟩ : ∃ y_ : List Int, y_ = (([t213, t214] : List Int)) := ⟨_, rfl⟩
            replace H : ((cmp_Or_int.f kj2 y215).bind fun t218 => (if t218 = 0 then (ver_order.l0 kj2 t210 t212) else (some t218))) = some r := by first | (rw [hy215]; with_reducible exact H) | (have H2_ := (Option.bind_some _ _).symm.trans H; rw [hy215]; with_reducible exact H2_) | (have H2_ := (Option.bind_some _ _).symm.trans H; with_reducible exact H2_) | with_reducible exact H | (rw [hy215]; exact H) | exact H
            have Ny215 := Aside0.mk hy215
            clear hy215
            replace H := Option.bind_eq_some_iff.mp H
            obtain ⟨t218, A120, H⟩ := H
            replace H : (if t218 = 0 then (ver_order.l0 kj2 t210 t212) else (some t218)) = some r := H
            have A12 := Aside0.mk A120
            clear A120
            by_cases c13 : t218 = 0
            · rw [if_pos c13] at H
              have c13b0 : (t218 == 0) = true := beq_iff_eq.mpr c13
              have c13b1 : (t218 != 0) = false := bne_eq_false_iff_eq.mpr c13
              clear c13
              have H' := Aside0.mk H
              clear H
              go_wp2_with (first | ((with_reducible refine gate_callee (f := 37) rfl ?_); refine goesL_ (some 20) rfl rfl Tryd.func37 (by kernel_rfl) rfl #[.string x0_1, .bool true] rfl (by (try simp only [List.map_toArray, List.map_cons, List.map_nil]); first | done | rfl | (simp only [List.length_drop, List.length_take]; rfl)) ?_; (with_reducible refine (ver_take.calls kj2 x0_1 true t205 t206 _ A6.out).mono ?_); rintro e w' ⟨rfl, ⟨nd, rfl⟩⟩; refine ⟨_, rfl, ?_⟩) | ((with_reducible refine gate_callee (f := 37) rfl ?_); refine goesL_ (some 25) rfl rfl Tryd.func37 (by kernel_rfl) rfl #[.string x1_1, .bool true] rfl (by (try simp only [List.map_toArray, List.map_cons, List.map_nil]); first | done | rfl | (simp only [List.length_drop, List.length_take]; rfl)) ?_; (with_reducible refine (ver_take.calls kj2 x1_1 true t207 t208 _ A7.out).mono ?_); rintro e w' ⟨rfl, ⟨nd, rfl⟩⟩; refine ⟨_, rfl, ?_⟩) | ((with_reducible refine gate_callee (f := 37) rfl ?_); refine goesL_ (some 30) rfl rfl Tryd.func37 (by kernel_rfl) rfl #[.string t206, .bool false] rfl (by (try simp only [List.map_toArray, List.map_cons, List.map_nil]); first | done | rfl | (simp only [List.length_drop, List.length_take]; rfl)) ?_; (with_reducible refine (ver_take.calls kj2 t206 false t209 t210 _ A8.out).mono ?_); rintro e w' ⟨rfl, ⟨nd, rfl⟩⟩; refine ⟨_, rfl, ?_⟩) | ((with_reducible refine gate_callee (f := 37) rfl ?_); refine goesL_ (some 35) rfl rfl Tryd.func37 (by kernel_rfl) rfl #[.string t208, .bool false] rfl (by (try simp only [List.map_toArray, List.map_cons, List.map_nil]); first | done | rfl | (simp only [List.length_drop, List.length_take]; rfl)) ?_; (with_reducible refine (ver_take.calls kj2 t208 false t211 t212 _ A9.out).mono ?_); rintro e w' ⟨rfl, ⟨nd, rfl⟩⟩; refine ⟨_, rfl, ?_⟩) | ((with_reducible refine gate_callee (f := 29) rfl ?_); refine goesL_ (some 40) rfl rfl Tryd.func29 (by kernel_rfl) rfl #[.string t205, .string t207] rfl (by (try simp only [List.map_toArray, List.map_cons, List.map_nil]); first | done | rfl | (simp only [List.length_drop, List.length_take]; rfl)) ?_; (with_reducible refine (ver_number.calls kj2 t205 t207 t213 _ A10.out).mono ?_); rintro e w14 ⟨rfl, hb⟩; refine ⟨_, rfl, ?_⟩; have n0_ := Aside0.mk (below_step (by repeat (first | (with_reducible first | exact HB.out | apply below_alloc | apply pw_below_drewN | apply below_drew1) | exact HB.out)) hb); clear HB; have HB := n0_; clear n0_; (try clear hb); (try clear hb2); (try clear hk); (try clear hi)) | ((with_reducible refine gate_callee (f := 47) rfl ?_); refine goesL_ (some 43) rfl rfl Tryd.func47 (by kernel_rfl) rfl #[.string t209, .string t211] rfl (by (try simp only [List.map_toArray, List.map_cons, List.map_nil]); first | done | rfl | (simp only [List.length_drop, List.length_take]; rfl)) ?_; (with_reducible refine (ver_words.calls kj2 t209 t211 t214 _ A11.out).mono ?_); rintro e w15 ⟨rfl, hb⟩; refine ⟨_, rfl, ?_⟩; have n0_ := Aside0.mk (below_step (by repeat (first | (with_reducible first | exact HB.out | apply below_alloc | apply pw_below_drewN | apply below_drew1) | exact HB.out)) hb); clear HB; have HB := n0_; clear n0_; (try clear hb); (try clear hb2); (try clear hk); (try clear hi)) | ((with_reducible refine gate_dst (N := 44) rfl ?_); refine Kd.R_lit (Kd.int .i64) _ 3 ?hg (N := 44) ?hd (xs := ([t213, t214] : List Int)) (inner := [.int .i64 t213, .int .i64 t214]) (ok := fun _ => True) (okp := fun _ => True) ?hr ?hp (fun _ hk => hk) trivial (Below.refl _ _) (Nat.le_refl _) (by simp) ?_; (case hd => rfl); (case hg => rfl); (case hr => first | (go_simp; done) | (go_simp; rfl)); (case hp => exact (Reps.one (show Kd.M (Kd.int .i64) _ _ _ t213 [.int .i64 t213] from rfl) (Reps.one (show Kd.M (Kd.int .i64) _ _ _ t214 [.int .i64 t214] from rfl) (Reps.none _ _)))); intro v216 w16 ho17 hb hg_ hnew_; clear hg_ hnew_; (first | rw [← Ny215.out] at ho17 | (simp only [Int.reduceToNat] at ho17; rw [← Ny215.out] at ho17)); have n0_ := Aside0.mk (Kd.R_lower ho17 (below_size (by repeat (first | (with_reducible first | exact HB.out | apply below_alloc | apply pw_below_drewN | apply below_drew1) | exact HB.out)))); have n1_ := Aside0.mk (below_step (by repeat (first | (with_reducible first | exact HB.out | apply below_alloc | apply pw_below_drewN | apply below_drew1) | exact HB.out)) hb); clear HB; have HO217 := n0_; have HB := n1_; clear n0_ n1_; clear hb ho17; obtain ⟨Ao18, co18, eo18⟩ := Kd.R_slice HO217.out; subst eo18) | ((with_reducible refine gate_callee (f := 28) rfl ?_); refine goesL_ (some 45) rfl rfl Tryd.func28 (by kernel_rfl) rfl #[.slice Ao18 y215.length co18] rfl (by (try simp only [List.map_toArray, List.map_cons, List.map_nil]); first | done | rfl | (simp only [List.length_drop, List.length_take]; rfl)) ?_; (with_reducible refine (cmp_Or_int.calls kj2 _ _ y215 t218 _ ?side1 ?side2 A12.out).mono ?_); (case side1 => repeat (first | exact (Kd.R_reads' HO217.out).2.2 | (with_reducible refine Kd.C_alloc ?_ _) | (with_reducible refine Kd.C_drewN ?_ _) | (with_reducible refine Kd.C_drew ?_))); (case side2 => exact (Kd.R_reads' HO217.out).2.1); rintro e w' ⟨rfl, ⟨nd, rfl⟩⟩; refine ⟨_, rfl, ?_⟩))
              go_roundg kj2
              case measure => have := HK1.out; have := HJ2.out; omega
              case rel => exact ⟨(t210), (t212), (by first | rfl | (simp; done) | (simp [*]; done)), (by first | rfl | (simp; done) | (simp [*]; done)), H', ⟨by have := HK1.out; have := HJ2.out; omega⟩, ⟨by repeat (first | (with_reducible first | exact HB.out | apply below_alloc | apply pw_below_drewN | apply below_drew1) | exact HB.out)⟩⟩
            · rw [if_neg c13] at H
              have c13b0 : (t218 == 0) = false := beq_eq_false_iff_ne.mpr c13
              have c13b1 : (t218 != 0) = true := bne_iff_ne.mpr c13
              obtain rfl := Option.some.inj H
              go_wp2_with (first | ((with_reducible refine gate_callee (f := 37) rfl ?_); refine goesL_ (some 20) rfl rfl Tryd.func37 (by kernel_rfl) rfl #[.string x0_1, .bool true] rfl (by (try simp only [List.map_toArray, List.map_cons, List.map_nil]); first | done | rfl | (simp only [List.length_drop, List.length_take]; rfl)) ?_; (with_reducible refine (ver_take.calls kj2 x0_1 true t205 t206 _ A6.out).mono ?_); rintro e w' ⟨rfl, ⟨nd, rfl⟩⟩; refine ⟨_, rfl, ?_⟩) | ((with_reducible refine gate_callee (f := 37) rfl ?_); refine goesL_ (some 25) rfl rfl Tryd.func37 (by kernel_rfl) rfl #[.string x1_1, .bool true] rfl (by (try simp only [List.map_toArray, List.map_cons, List.map_nil]); first | done | rfl | (simp only [List.length_drop, List.length_take]; rfl)) ?_; (with_reducible refine (ver_take.calls kj2 x1_1 true t207 t208 _ A7.out).mono ?_); rintro e w' ⟨rfl, ⟨nd, rfl⟩⟩; refine ⟨_, rfl, ?_⟩) | ((with_reducible refine gate_callee (f := 37) rfl ?_); refine goesL_ (some 30) rfl rfl Tryd.func37 (by kernel_rfl) rfl #[.string t206, .bool false] rfl (by (try simp only [List.map_toArray, List.map_cons, List.map_nil]); first | done | rfl | (simp only [List.length_drop, List.length_take]; rfl)) ?_; (with_reducible refine (ver_take.calls kj2 t206 false t209 t210 _ A8.out).mono ?_); rintro e w' ⟨rfl, ⟨nd, rfl⟩⟩; refine ⟨_, rfl, ?_⟩) | ((with_reducible refine gate_callee (f := 37) rfl ?_); refine goesL_ (some 35) rfl rfl Tryd.func37 (by kernel_rfl) rfl #[.string t208, .bool false] rfl (by (try simp only [List.map_toArray, List.map_cons, List.map_nil]); first | done | rfl | (simp only [List.length_drop, List.length_take]; rfl)) ?_; (with_reducible refine (ver_take.calls kj2 t208 false t211 t212 _ A9.out).mono ?_); rintro e w' ⟨rfl, ⟨nd, rfl⟩⟩; refine ⟨_, rfl, ?_⟩) | ((with_reducible refine gate_callee (f := 29) rfl ?_); refine goesL_ (some 40) rfl rfl Tryd.func29 (by kernel_rfl) rfl #[.string t205, .string t207] rfl (by (try simp only [List.map_toArray, List.map_cons, List.map_nil]); first | done | rfl | (simp only [List.length_drop, List.length_take]; rfl)) ?_; (with_reducible refine (ver_number.calls kj2 t205 t207 t213 _ A10.out).mono ?_); rintro e w19 ⟨rfl, hb⟩; refine ⟨_, rfl, ?_⟩; have n0_ := Aside0.mk (below_step (by repeat (first | (with_reducible first | exact HB.out | apply below_alloc | apply pw_below_drewN | apply below_drew1) | exact HB.out)) hb); clear HB; have HB := n0_; clear n0_; (try clear hb); (try clear hb2); (try clear hk); (try clear hi)) | ((with_reducible refine gate_callee (f := 47) rfl ?_); refine goesL_ (some 43) rfl rfl Tryd.func47 (by kernel_rfl) rfl #[.string t209, .string t211] rfl (by (try simp only [List.map_toArray, List.map_cons, List.map_nil]); first | done | rfl | (simp only [List.length_drop, List.length_take]; rfl)) ?_; (with_reducible refine (ver_words.calls kj2 t209 t211 t214 _ A11.out).mono ?_); rintro e w20 ⟨rfl, hb⟩; refine ⟨_, rfl, ?_⟩; have n0_ := Aside0.mk (below_step (by repeat (first | (with_reducible first | exact HB.out | apply below_alloc | apply pw_below_drewN | apply below_drew1) | exact HB.out)) hb); clear HB; have HB := n0_; clear n0_; (try clear hb); (try clear hb2); (try clear hk); (try clear hi)) | ((with_reducible refine gate_dst (N := 44) rfl ?_); refine Kd.R_lit (Kd.int .i64) _ 3 ?hg (N := 44) ?hd (xs := ([t213, t214] : List Int)) (inner := [.int .i64 t213, .int .i64 t214]) (ok := fun _ => True) (okp := fun _ => True) ?hr ?hp (fun _ hk => hk) trivial (Below.refl _ _) (Nat.le_refl _) (by simp) ?_; (case hd => rfl); (case hg => rfl); (case hr => first | (go_simp; done) | (go_simp; rfl)); (case hp => exact (Reps.one (show Kd.M (Kd.int .i64) _ _ _ t213 [.int .i64 t213] from rfl) (Reps.one (show Kd.M (Kd.int .i64) _ _ _ t214 [.int .i64 t214] from rfl) (Reps.none _ _)))); intro v216 w21 ho22 hb hg_ hnew_; clear hg_ hnew_; (first | rw [← Ny215.out] at ho22 | (simp only [Int.reduceToNat] at ho22; rw [← Ny215.out] at ho22)); have n0_ := Aside0.mk (Kd.R_lower ho22 (below_size (by repeat (first | (with_reducible first | exact HB.out | apply below_alloc | apply pw_below_drewN | apply below_drew1) | exact HB.out)))); have n1_ := Aside0.mk (below_step (by repeat (first | (with_reducible first | exact HB.out | apply below_alloc | apply pw_below_drewN | apply below_drew1) | exact HB.out)) hb); clear HB; have HO217 := n0_; have HB := n1_; clear n0_ n1_; clear hb ho22; obtain ⟨Ao23, co23, eo23⟩ := Kd.R_slice HO217.out; subst eo23) | ((with_reducible refine gate_callee (f := 28) rfl ?_); refine goesL_ (some 45) rfl rfl Tryd.func28 (by kernel_rfl) rfl #[.slice Ao23 y215.length co23] rfl (by (try simp only [List.map_toArray, List.map_cons, List.map_nil]); first | done | rfl | (simp only [List.length_drop, List.length_take]; rfl)) ?_; (with_reducible refine (cmp_Or_int.calls kj2 _ _ y215 t218 _ ?side1 ?side2 A12.out).mono ?_); (case side1 => repeat (first | exact (Kd.R_reads' HO217.out).2.2 | (with_reducible refine Kd.C_alloc ?_ _) | (with_reducible refine Kd.C_drewN ?_ _) | (with_reducible refine Kd.C_drew ?_))); (case side2 => exact (Kd.R_reads' HO217.out).2.1); rintro e w' ⟨rfl, ⟨nd, rfl⟩⟩; refine ⟨_, rfl, ?_⟩))
              go_ret
              exact ⟨by first | rfl | (simp [errW_none, errW_some] <;> rfl) | (simp [*, errW_none, errW_some] <;> rfl), by repeat (first | (with_reducible first | exact HB.out | apply below_alloc | apply pw_below_drewN | apply below_drew1) | exact HB.out)⟩
          · replace c5 := Bool.eq_false_iff.mpr c5
            subst c5
            have H1 : (some 0) = some r := by rw [if_neg (show ¬ (false = true) by decide)] at H; exact H
            clear H
            have H := H1
            clear H1
            obtain rfl := Option.some.inj H
            go_wp2
            go_ret
            exact ⟨by first | rfl | (simp [errW_none, errW_some] <;> rfl) | (simp [*, errW_none, errW_some] <;> rfl), by repeat (first | (with_reducible first | exact HB.out | apply below_alloc | apply pw_below_drewN | apply below_drew1) | exact HB.out)⟩
end Go.Proofs.YtpijehmhgjkkoaaDoor.Q
namespace Go.Proofs.YtpijehmhgjkkoaaDoor.Q
open Go.RowKit Go.Proofs.YtpijehmhgjkkoaaDoorW.PrintWords Go.Proofs.YtpijehmhgjkkoaaDoorW.PrintLast Go.Proofs.YtpijehmhgjkkoaaDoorW.PrintMore
attribute [local go_sem] max2_int min2_int max_two min_two max_three min_three max_four min_four   -- for this text's walks alone
set_option linter.unusedVariables false
set_option linter.unusedSimpArgs false
/-! ### ver_Compare: function 15 -/
def ver_Compare.f (k : Nat) (a0 : ByteArray) (a1 : ByteArray) : Option (Int) := (ver_Compare_1.f k 0 a0 (⟨#[]⟩ : ByteArray) (⟨#[]⟩ : ByteArray) (⟨#[]⟩ : ByteArray)).bind fun bt225 => ((ver_Compare_2.f k 0 a1 (⟨#[]⟩ : ByteArray) (⟨#[]⟩ : ByteArray) (⟨#[]⟩ : ByteArray)).bind fun bt229 => ((ver_number.f k bt225.2.1 bt229.2.1).bind fun t233 => ((ver_order.f k bt225.2.2.1 bt229.2.2.1).bind fun t234 => ((ver_order.f k bt225.2.2.2 bt229.2.2.2).bind fun t235 => ((cmp_Or_int.f k (([t233, t234, t235] : List Int))).bind fun t239 => (some t239))))))
theorem ver_Compare.mono : ∀ a0 a1 k, LeO (ver_Compare.f k a0 a1) (ver_Compare.f (k + 1) a0 a1) := by
  intro a0 a1 k
  unfold ver_Compare.f
  repeat' first
      | (with_reducible exact cmp_Or_int.mono _ _)
      | (with_reducible exact ver_Compare_1.mono _ _ _ _ _ _)
      | (with_reducible exact ver_Compare_2.mono _ _ _ _ _ _)
      | (with_reducible exact ver_number.mono _ _ _)
      | (with_reducible exact ver_order.mono _ _ _)
      | (with_reducible exact LeO.refl _)
      | (with_reducible exact LeO.none _)
      | (with_reducible refine LeO.ite ?_ ?_)
      | (with_reducible refine LeO.bind ?_ (fun _ => ?_))
      | exact cmp_Or_int.mono _ _
      | exact ver_Compare_1.mono _ _ _ _ _ _
      | exact ver_Compare_2.mono _ _ _ _ _ _
      | exact ver_number.mono _ _ _
      | exact ver_order.mono _ _ _
      | exact LeO.none _
      | refine LeO.ite ?_ ?_
      | refine LeO.bind ?_ (fun _ => ?_)
def ver_Compare.T5 : Bool × List (List Nat × List Nat) := (true, [([], []), ([0], [0]), ([], []), ([2], [2]), ([1, 3], [1, 3]), ([], []), ([5], [5]), ([], []), ([7], [7]), ([6, 8, 4], [6, 8]), ([], []), ([10], [10]), ([], []), ([12], [12]), ([11, 13, 9], [11, 13]), ([4, 9, 14], [4, 9, 14]), ([15, 14], [15]), ([16, 16, 0, 1, 2, 3, 4, 5, 6, 7, 8, 9, 10, 11, 12, 13, 14, 15, 16], [16])])
def ver_Compare.B5 : List Nat := [0, 1, 0, 4, 15, 0, 32, 0, 128, 511, 0, 1024, 0, 4096, 16383, 32767, 65535, 131071]
theorem ver_Compare.tab5 : rtab .any (opsOf Tryd.f15 5) = ver_Compare.T5 := by kernel_rfl
theorem ver_Compare.bits5 : waitsOk ver_Compare.T5.2 ver_Compare.B5 = true := by kernel_rfl
set_option maxHeartbeats 8000000 in
set_option maxRecDepth 100000 in
theorem ver_Compare.calls (k : Nat) (a0 : ByteArray) (a1 : ByteArray) (r : Int) (w : World) (h : ver_Compare.f k a0 a1 = some r) :
    Calls Tryd.prog 15 #[.string a0, .string a1] w fun e w' => e = .returned (.int .i64 r) ∧ Below w.heap.size w w' := by
  have hu44 := Tryd.underlying44
  have hmf : ∀ (fn : Fn) (first cap : Array Value) (w : World), (Instr.makeFunc fn first cap).run Tryd.prog w = .ok (.func fn first cap) w := fun _ _ _ _ => rfl
  have HB := Aside0.mk (Below.refl w.heap.size w)
  have H : ((ver_Compare_1.f k 0 a0 (⟨#[]⟩ : ByteArray) (⟨#[]⟩ : ByteArray) (⟨#[]⟩ : ByteArray)).bind fun bt225 => ((ver_Compare_2.f k 0 a1 (⟨#[]⟩ : ByteArray) (⟨#[]⟩ : ByteArray) (⟨#[]⟩ : ByteArray)).bind fun bt229 => ((ver_number.f k bt225.2.1 bt229.2.1).bind fun t233 => ((ver_order.f k bt225.2.2.1 bt229.2.2.1).bind fun t234 => ((ver_order.f k bt225.2.2.2 bt229.2.2.2).bind fun t235 => ((cmp_Or_int.f k (([t233, t234, t235] : List Int))).bind fun t239 => (some t239))))))) = some r := h
  clear h
  replace H := Option.bind_eq_some_iff.mp H
  obtain ⟨⟨t225, t226, t227, t228⟩, A30, H⟩ := H
  replace H : ((ver_Compare_2.f k 0 a1 (⟨#[]⟩ : ByteArray) (⟨#[]⟩ : ByteArray) (⟨#[]⟩ : ByteArray)).bind fun bt229 => ((ver_number.f k t226 bt229.2.1).bind fun t233 => ((ver_order.f k t227 bt229.2.2.1).bind fun t234 => ((ver_order.f k t228 bt229.2.2.2).bind fun t235 => ((cmp_Or_int.f k (([t233, t234, t235] : List Int))).bind fun t239 => (some t239)))))) = some r := H
  have A3 := Aside0.mk A30
  clear A30
  replace H := Option.bind_eq_some_iff.mp H
  obtain ⟨⟨t229, t230, t231, t232⟩, A40, H⟩ := H
  replace H : ((ver_number.f k t226 t230).bind fun t233 => ((ver_order.f k t227 t231).bind fun t234 => ((ver_order.f k t228 t232).bind fun t235 => ((cmp_Or_int.f k (([t233, t234, t235] : List Int))).bind fun t239 => (some t239))))) = some r := H
  have A4 := Aside0.mk A40
  clear A40
  replace H := Option.bind_eq_some_iff.mp H
  obtain ⟨t233, A50, H⟩ := H
  replace H : ((ver_order.f k t227 t231).bind fun t234 => ((ver_order.f k t228 t232).bind fun t235 => ((cmp_Or_int.f k (([t233, t234, t235] : List Int))).bind fun t239 => (some t239)))) = some r := H
  have A5 := Aside0.mk A50
  clear A50
  replace H := Option.bind_eq_some_iff.mp H
  obtain ⟨t234, A60, H⟩ := H
  replace H : ((ver_order.f k t228 t232).bind fun t235 => ((cmp_Or_int.f k (([t233, t234, t235] : List Int))).bind fun t239 => (some t239))) = some r := H
  have A6 := Aside0.mk A60
  clear A60
  replace H := Option.bind_eq_some_iff.mp H
  obtain ⟨t235, A70, H⟩ := H
  replace H : ((cmp_Or_int.f k (([t233, t234, t235] : List Int))).bind fun t239 => (some t239)) = some r := H
  have A7 := Aside0.mk A70
  clear A70
  obtain ⟨y236, hy236⟩ : ∃ y_ : List Int, y_ = (([t233, t234, t235] : List Int)) := ⟨_, rfl⟩
  replace H : ((cmp_Or_int.f k y236).bind fun t239 => (some t239)) = some r := by first | (rw [hy236]; with_reducible exact H) | (have H2_ := (Option.bind_some _ _).symm.trans H; rw [hy236]; with_reducible exact H2_) | (have H2_ := (Option.bind_some _ _).symm.trans H; with_reducible exact H2_) | with_reducible exact H | (rw [hy236]; exact H) | exact H
  have Ny236 := Aside0.mk hy236
  clear hy236
  replace H := Option.bind_eq_some_iff.mp H
  obtain ⟨t239, A80, H⟩ := H
  replace H : (some t239) = some r := H
  have A8 := Aside0.mk A80
  clear A80
  obtain rfl := Option.some.inj H
  go_enter Tryd.func15, Tryd.ntmps15
  try go_wp2_with (first | ((with_reducible refine gate_dst (N := 2) rfl ?_); refine box_event ?hg (N := 2) ?hd (cs := #[.string a0]) (t := 9) ?hr ?_; (case hd => rfl); (case hg => rfl); (case hr => first | (go_simp; done) | (go_simp; rfl)); intro gb219 hg w9 hbox hb; have n0_ := Aside0.mk (below_step (by repeat (first | (with_reducible first | exact HB.out | apply below_alloc | apply pw_below_drewN | apply below_drew1) | exact HB.out)) hb); have n1_ := Aside0.mk (hbox); have n2_ := Aside0.mk ((by rw [hg]; exact (below_size (by repeat (first | (with_reducible first | exact HB.out | apply below_alloc | apply pw_below_drewN | apply below_drew1) | exact HB.out))) : w.heap.size ≤ gb219)); have n3_ := Aside0.mk ((by rw [hg]; exact (below_size (by repeat (first | (with_reducible first | exact HB.out | apply below_alloc | apply pw_below_drewN | apply below_drew1) | exact HB.out))) : w.heap.size ≤ gb219)); clear HB; have HB := n0_; have BK219 := n1_; have GW219 := n2_; have GE219 := n3_; clear n0_ n1_ n2_ n3_; clear hb hbox hg) | ((with_reducible refine gate_dst (N := 3) rfl ?_); refine box_event ?hg (N := 3) ?hd (cs := #[.string a1]) (t := 9) ?hr ?_; (case hd => rfl); (case hg => rfl); (case hr => first | (go_simp; done) | (go_simp; rfl)); intro gb220 hg w10 hbox hb; have n0_ := Aside0.mk (blk_below (g := gb219) (o := .cells #[.string a0] 9 (0, 0)) (by (with_reducible repeat (first | refine blk_drewN ?_ _ | refine blk_drew ?_ | refine blk_alloc ?_ _)); exact BK219.out) hb); have n1_ := Aside0.mk (below_step (by repeat (first | (with_reducible first | exact HB.out | apply below_alloc | apply pw_below_drewN | apply below_drew1 | refine below_set ?_ GE219.out) | exact HB.out)) hb); have n2_ := Aside0.mk (hbox); have n3_ := Aside0.mk ((by rw [hg]; exact (below_size (by repeat (first | (with_reducible first | exact HB.out | apply below_alloc | apply pw_below_drewN | apply below_drew1 | refine below_set ?_ GE219.out) | exact HB.out))) : w.heap.size ≤ gb220)); have n4_ := Aside0.mk ((by rw [hg]; exact (below_size (by repeat (first | (with_reducible first | exact HB.out | apply below_alloc | apply pw_below_drewN | apply below_drew1 | refine below_set ?_ GE219.out) | exact HB.out))) : w.heap.size ≤ gb220)); have n5_ := Aside0.mk ((by rw [hg]; exact Nat.ne_of_lt (blk_lt (g := gb219) (o := .cells #[.string a0] 9 (0, 0)) (by (with_reducible repeat (first | refine blk_drewN ?_ _ | refine blk_drew ?_ | refine blk_alloc ?_ _)); exact BK219.out)) : gb219 ≠ gb220)); have n6_ := Aside0.mk ((by rw [hg]; exact Nat.ne_of_gt (blk_lt (g := gb219) (o := .cells #[.string a0] 9 (0, 0)) (by (with_reducible repeat (first | refine blk_drewN ?_ _ | refine blk_drew ?_ | refine blk_alloc ?_ _)); exact BK219.out)) : gb220 ≠ gb219)); clear BK219; clear HB; have BK219 := n0_; have HB := n1_; have BK220 := n2_; have GW220 := n3_; have GE220 := n4_; have NB219_220 := n5_; have NB220_219 := n6_; clear n0_ n1_ n2_ n3_ n4_ n5_ n6_; clear hb hbox hg) | ((with_reducible refine gate_dst (N := 5) rfl ?_); refine box_event ?hg (N := 5) ?hd (cs := #[.string (⟨#[]⟩ : ByteArray), .string (⟨#[]⟩ : ByteArray), .string (⟨#[]⟩ : ByteArray)]) (t := 44) ?hr ?_; (case hd => rfl); (case hg => rfl); (case hr => first | (go_simp; done) | (go_simp; rfl)); intro gb221 hg w11 hbox hb; have n0_ := Aside0.mk (blk_below (g := gb219) (o := .cells #[.string a0] 9 (0, 0)) (by (with_reducible repeat (first | refine blk_drewN ?_ _ | refine blk_drew ?_ | refine blk_alloc ?_ _)); exact BK219.out) hb); have n1_ := Aside0.mk (blk_below (g := gb220) (o := .cells #[.string a1] 9 (0, 0)) (by (with_reducible repeat (first | refine blk_drewN ?_ _ | refine blk_drew ?_ | refine blk_alloc ?_ _)); exact BK220.out) hb); have n2_ := Aside0.mk (below_step (by repeat (first | (with_reducible first | exact HB.out | apply below_alloc | apply pw_below_drewN | apply below_drew1 | refine below_set ?_ GE219.out | refine below_set ?_ GE220.out) | exact HB.out)) hb); have n3_ := Aside0.mk (hbox); have n4_ := Aside0.mk ((by rw [hg]; exact (below_size (by repeat (first | (with_reducible first | exact HB.out | apply below_alloc | apply pw_below_drewN | apply below_drew1 | refine below_set ?_ GE219.out | refine below_set ?_ GE220.out) | exact HB.out))) : w.heap.size ≤ gb221)); have n5_ := Aside0.mk ((by rw [hg]; exact (below_size (by repeat (first | (with_reducible first | exact HB.out | apply below_alloc | apply pw_below_drewN | apply below_drew1 | refine below_set ?_ GE219.out | refine below_set ?_ GE220.out) | exact HB.out))) : w.heap.size ≤ gb221)); have n6_ := Aside0.mk ((by rw [hg]; exact Nat.ne_of_lt (blk_lt (g := gb219) (o := .cells #[.string a0] 9 (0, 0)) (by (with_reducible repeat (first | refine blk_drewN ?_ _ | refine blk_drew ?_ | refine blk_alloc ?_ _)); exact BK219.out)) : gb219 ≠ gb221)); have n7_ := Aside0.mk ((by rw [hg]; exact Nat.ne_of_gt (blk_lt (g := gb219) (o := .cells #[.string a0] 9 (0, 0)) (by (with_reducible repeat (first | refine blk_drewN ?_ _ | refine blk_drew ?_ | refine blk_alloc ?_ _)); exact BK219.out)) : gb221 ≠ gb219)); have n8_ := Aside0.mk ((by rw [hg]; exact Nat.ne_of_lt (blk_lt (g := gb220) (o := .cells #[.string a1] 9 (0, 0)) (by (with_reducible repeat (first | refine blk_drewN ?_ _ | refine blk_drew ?_ | refine blk_alloc ?_ _)); exact BK220.out)) : gb220 ≠ gb221)); have n9_ := Aside0.mk ((by rw [hg]; exact Nat.ne_of_gt (blk_lt (g := gb220) (o := .cells #[.string a1] 9 (0, 0)) (by (with_reducible repeat (first | refine blk_drewN ?_ _ | refine blk_drew ?_ | refine blk_alloc ?_ _)); exact BK220.out)) : gb221 ≠ gb220)); clear BK219; clear BK220; clear HB; have BK219 := n0_; have BK220 := n1_; have HB := n2_; have BK221 := n3_; have GW221 := n4_; have GE221 := n5_; have NB219_221 := n6_; have NB221_219 := n7_; have NB220_221 := n8_; have NB221_220 := n9_; clear n0_ n1_ n2_ n3_ n4_ n5_ n6_ n7_ n8_ n9_; clear hb hbox hg) | ((with_reducible refine gate_dst (N := 6) rfl ?_); refine box_event ?hg (N := 6) ?hd (cs := #[.string (⟨#[]⟩ : ByteArray), .string (⟨#[]⟩ : ByteArray), .string (⟨#[]⟩ : ByteArray)]) (t := 44) ?hr ?_; (case hd => rfl); (case hg => rfl); (case hr => first | (go_simp; done) | (go_simp; rfl)); intro gb222 hg w12 hbox hb; have n0_ := Aside0.mk (blk_below (g := gb219) (o := .cells #[.string a0] 9 (0, 0)) (by (with_reducible repeat (first | refine blk_drewN ?_ _ | refine blk_drew ?_ | refine blk_alloc ?_ _)); exact BK219.out) hb); have n1_ := Aside0.mk (blk_below (g := gb220) (o := .cells #[.string a1] 9 (0, 0)) (by (with_reducible repeat (first | refine blk_drewN ?_ _ | refine blk_drew ?_ | refine blk_alloc ?_ _)); exact BK220.out) hb); have n2_ := Aside0.mk (blk_below (g := gb221) (o := .cells #[.string (⟨#[]⟩ : ByteArray), .string (⟨#[]⟩ : ByteArray), .string (⟨#[]⟩ : ByteArray)] 44 (0, 0)) (by (with_reducible repeat (first | refine blk_drewN ?_ _ | refine blk_drew ?_ | refine blk_alloc ?_ _)); exact BK221.out) hb); have n3_ := Aside0.mk (below_step (by repeat (first | (with_reducible first | exact HB.out | apply below_alloc | apply pw_below_drewN | apply below_drew1 | refine below_set ?_ GE219.out | refine below_set ?_ GE220.out | refine below_set ?_ GE221.out) | exact HB.out)) hb); have n4_ := Aside0.mk (hbox); have n5_ := Aside0.mk ((by rw [hg]; exact (below_size (by repeat (first | (with_reducible first | exact HB.out | apply below_alloc | apply pw_below_drewN | apply below_drew1 | refine below_set ?_ GE219.out | refine below_set ?_ GE220.out | refine below_set ?_ GE221.out) | exact HB.out))) : w.heap.size ≤ gb222)); have n6_ := Aside0.mk ((by rw [hg]; exact (below_size (by repeat (first | (with_reducible first | exact HB.out | apply below_alloc | apply pw_below_drewN | apply below_drew1 | refine below_set ?_ GE219.out | refine below_set ?_ GE220.out | refine below_set ?_ GE221.out) | exact HB.out))) : w.heap.size ≤ gb222)); have n7_ := Aside0.mk ((by rw [hg]; exact Nat.ne_of_lt (blk_lt (g := gb219) (o := .cells #[.string a0] 9 (0, 0)) (by (with_reducible repeat (first | refine blk_drewN ?_ _ | refine blk_drew ?_ | refine blk_alloc ?_ _)); exact BK219.out)) : gb219 ≠ gb222)); have n8_ := Aside0.mk ((by rw [hg]; exact Nat.ne_of_gt (blk_lt (g := gb219) (o := .cells #[.string a0] 9 (0, 0)) (by (with_reducible repeat (first | refine blk_drewN ?_ _ | refine blk_drew ?_ | refine blk_alloc ?_ _)); exact BK219.out)) : gb222 ≠ gb219)); have n9_ := Aside0.mk ((by rw [hg]; exact Nat.ne_of_lt (blk_lt (g := gb220) (o := .cells #[.string a1] 9 (0, 0)) (by (with_reducible repeat (first | refine blk_drewN ?_ _ | refine blk_drew ?_ | refine blk_alloc ?_ _)); exact BK220.out)) : gb220 ≠ gb222)); have n10_ := Aside0.mk ((by rw [hg]; exact Nat.ne_of_gt (blk_lt (g := gb220) (o := .cells #[.string a1] 9 (0, 0)) (by (with_reducible repeat (first | refine blk_drewN ?_ _ | refine blk_drew ?_ | refine blk_alloc ?_ _)); exact BK220.out)) : gb222 ≠ gb220)); have n11_ := Aside0.mk ((by rw [hg]; exact Nat.ne_of_lt (blk_lt (g := gb221) (o := .cells #[.string (⟨#[]⟩ : ByteArray), .string (⟨#[]⟩ : ByteArray), .string (⟨#[]⟩ : ByteArray)] 44 (0, 0)) (by (with_reducible repeat (first | refine blk_drewN ?_ _ | refine blk_drew ?_ | refine blk_alloc ?_ _)); exact BK221.out)) : gb221 ≠ gb222)); have n12_ := Aside0.mk ((by rw [hg]; exact Nat.ne_of_gt (blk_lt (g := gb221) (o := .cells #[.string (⟨#[]⟩ : ByteArray), .string (⟨#[]⟩ : ByteArray), .string (⟨#[]⟩ : ByteArray)] 44 (0, 0)) (by (with_reducible repeat (first | refine blk_drewN ?_ _ | refine blk_drew ?_ | refine blk_alloc ?_ _)); exact BK221.out)) : gb222 ≠ gb221)); clear BK219; clear BK220; clear BK221; clear HB; have BK219 := n0_; have BK220 := n1_; have BK221 := n2_; have HB := n3_; have BK222 := n4_; have GW222 := n5_; have GE222 := n6_; have NB219_222 := n7_; have NB222_219 := n8_; have NB220_222 := n9_; have NB222_220 := n10_; have NB221_222 := n11_; have NB222_221 := n12_; clear n0_ n1_ n2_ n3_ n4_ n5_ n6_ n7_ n8_ n9_ n10_ n11_ n12_; clear hb hbox hg; have hnb13 := NB221_219.out; have hnc13 := NB219_221.out; have hnb14 := NB221_220.out; have hnc14 := NB220_221.out; have hnb15 := NB221_222.out; have hnc15 := NB222_221.out; have hcz16_0 : w12.cell? ⟨gb221, 0, none⟩ = some (.string (⟨#[]⟩ : ByteArray)) := (blk_cell BK221.out 0).trans rfl; have hcz16_1 : w12.cell? ⟨gb221, 1, none⟩ = some (.string (⟨#[]⟩ : ByteArray)) := (blk_cell BK221.out 1).trans rfl; have hcz16_2 : w12.cell? ⟨gb221, 2, none⟩ = some (.string (⟨#[]⟩ : ByteArray)) := (blk_cell BK221.out 2).trans rfl; have hfz16_0 := blk_frozen BK221.out 0; have hfz16_1 := blk_frozen BK221.out 1; have hfz16_2 := blk_frozen BK221.out 2; have hnb17 := NB222_219.out; have hnc17 := NB219_222.out; have hnb18 := NB222_220.out; have hnc18 := NB220_222.out; have hcz19_0 : w12.cell? ⟨gb222, 0, none⟩ = some (.string (⟨#[]⟩ : ByteArray)) := (blk_cell BK222.out 0).trans rfl; have hcz19_1 : w12.cell? ⟨gb222, 1, none⟩ = some (.string (⟨#[]⟩ : ByteArray)) := (blk_cell BK222.out 1).trans rfl; have hcz19_2 : w12.cell? ⟨gb222, 2, none⟩ = some (.string (⟨#[]⟩ : ByteArray)) := (blk_cell BK222.out 2).trans rfl; have hfz19_0 := blk_frozen BK222.out 0; have hfz19_1 := blk_frozen BK222.out 1; have hfz19_2 := blk_frozen BK222.out 2) | ((with_reducible refine gate_dst (N := 7) rfl ?_); refine box_event ?hg (N := 7) ?hd (cs := #[.int .i64 0]) (t := 23) ?hr ?_; (case hd => rfl); (case hg => rfl); (case hr => first | (go_simp; done) | (go_simp; rfl)); intro gb223 hg w20 hbox hb; have n0_ := Aside0.mk (blk_below (g := gb219) (o := .cells #[.string a0] 9 (0, 0)) (by (with_reducible repeat (first | refine blk_drewN ?_ _ | refine blk_drew ?_ | refine blk_alloc ?_ _)); refine blk_far ?_ NB219_222.out _; (with_reducible repeat (first | refine blk_drewN ?_ _ | refine blk_drew ?_ | refine blk_alloc ?_ _)); refine blk_far ?_ NB219_222.out _; (with_reducible repeat (first | refine blk_drewN ?_ _ | refine blk_drew ?_ | refine blk_alloc ?_ _)); refine blk_far ?_ NB219_222.out _; (with_reducible repeat (first | refine blk_drewN ?_ _ | refine blk_drew ?_ | refine blk_alloc ?_ _)); refine blk_far ?_ NB219_221.out _; (with_reducible repeat (first | refine blk_drewN ?_ _ | refine blk_drew ?_ | refine blk_alloc ?_ _)); refine blk_far ?_ NB219_221.out _; (with_reducible repeat (first | refine blk_drewN ?_ _ | refine blk_drew ?_ | refine blk_alloc ?_ _)); refine blk_far ?_ NB219_221.out _; (with_reducible repeat (first | refine blk_drewN ?_ _ | refine blk_drew ?_ | refine blk_alloc ?_ _)); exact BK219.out) hb); have n1_ := Aside0.mk (blk_below (g := gb220) (o := .cells #[.string a1] 9 (0, 0)) (by (with_reducible repeat (first | refine blk_drewN ?_ _ | refine blk_drew ?_ | refine blk_alloc ?_ _)); refine blk_far ?_ NB220_222.out _; (with_reducible repeat (first | refine blk_drewN ?_ _ | refine blk_drew ?_ | refine blk_alloc ?_ _)); refine blk_far ?_ NB220_222.out _; (with_reducible repeat (first | refine blk_drewN ?_ _ | refine blk_drew ?_ | refine blk_alloc ?_ _)); refine blk_far ?_ NB220_222.out _; (with_reducible repeat (first | refine blk_drewN ?_ _ | refine blk_drew ?_ | refine blk_alloc ?_ _)); refine blk_far ?_ NB220_221.out _; (with_reducible repeat (first | refine blk_drewN ?_ _ | refine blk_drew ?_ | refine blk_alloc ?_ _)); refine blk_far ?_ NB220_221.out _; (with_reducible repeat (first | refine blk_drewN ?_ _ | refine blk_drew ?_ | refine blk_alloc ?_ _)); refine blk_far ?_ NB220_221.out _; (with_reducible repeat (first | refine blk_drewN ?_ _ | refine blk_drew ?_ | refine blk_alloc ?_ _)); exact BK220.out) hb); have n2_ := Aside0.mk (blk_below (g := gb221) (o := .cells #[.string (⟨#[]⟩ : ByteArray), .string (⟨#[]⟩ : ByteArray), .string (⟨#[]⟩ : ByteArray)] 44 (0, 0)) (by (with_reducible repeat (first | refine blk_drewN ?_ _ | refine blk_drew ?_ | refine blk_alloc ?_ _)); refine blk_far ?_ NB221_222.out _; (with_reducible repeat (first | refine blk_drewN ?_ _ | refine blk_drew ?_ | refine blk_alloc ?_ _)); refine blk_far ?_ NB221_222.out _; (with_reducible repeat (first | refine blk_drewN ?_ _ | refine blk_drew ?_ | refine blk_alloc ?_ _)); refine blk_far ?_ NB221_222.out _; (with_reducible repeat (first | refine blk_drewN ?_ _ | refine blk_drew ?_ | refine blk_alloc ?_ _)); refine blk_put (cs := #[.string (⟨#[]⟩ : ByteArray), .string (⟨#[]⟩ : ByteArray), .string (⟨#[]⟩ : ByteArray)]) ?_ 2 _ rfl; (with_reducible repeat (first | refine blk_drewN ?_ _ | refine blk_drew ?_ | refine blk_alloc ?_ _)); refine blk_put (cs := #[.string (⟨#[]⟩ : ByteArray), .string (⟨#[]⟩ : ByteArray), .string (⟨#[]⟩ : ByteArray)]) ?_ 1 _ rfl; (with_reducible repeat (first | refine blk_drewN ?_ _ | refine blk_drew ?_ | refine blk_alloc ?_ _)); refine blk_put (cs := #[.string (⟨#[]⟩ : ByteArray), .string (⟨#[]⟩ : ByteArray), .string (⟨#[]⟩ : ByteArray)]) ?_ 0 _ rfl; (with_reducible repeat (first | refine blk_drewN ?_ _ | refine blk_drew ?_ | refine blk_alloc ?_ _)); exact BK221.out) hb); have n3_ := Aside0.mk (blk_below (g := gb222) (o := .cells #[.string (⟨#[]⟩ : ByteArray), .string (⟨#[]⟩ : ByteArray), .string (⟨#[]⟩ : ByteArray)] 44 (0, 0)) (by (with_reducible repeat (first | refine blk_drewN ?_ _ | refine blk_drew ?_ | refine blk_alloc ?_ _)); refine blk_put (cs := #[.string (⟨#[]⟩ : ByteArray), .string (⟨#[]⟩ : ByteArray), .string (⟨#[]⟩ : ByteArray)]) ?_ 2 _ rfl; (with_reducible repeat (first | refine blk_drewN ?_ _ | refine blk_drew ?_ | refine blk_alloc ?_ _)); refine blk_put (cs := #[.string (⟨#[]⟩ : ByteArray), .string (⟨#[]⟩ : ByteArray), .string (⟨#[]⟩ : ByteArray)]) ?_ 1 _ rfl; (with_reducible repeat (first | refine blk_drewN ?_ _ | refine blk_drew ?_ | refine blk_alloc ?_ _)); refine blk_put (cs := #[.string (⟨#[]⟩ : ByteArray), .string (⟨#[]⟩ : ByteArray), .string (⟨#[]⟩ : ByteArray)]) ?_ 0 _ rfl; (with_reducible repeat (first | refine blk_drewN ?_ _ | refine blk_drew ?_ | refine blk_alloc ?_ _)); refine blk_far ?_ NB222_221.out _; (with_reducible repeat (first | refine blk_drewN ?_ _ | refine blk_drew ?_ | refine blk_alloc ?_ _)); refine blk_far ?_ NB222_221.out _; (with_reducible repeat (first | refine blk_drewN ?_ _ | refine blk_drew ?_ | refine blk_alloc ?_ _)); refine blk_far ?_ NB222_221.out _; (with_reducible repeat (first | refine blk_drewN ?_ _ | refine blk_drew ?_ | refine blk_alloc ?_ _)); exact BK222.out) hb); have n4_ := Aside0.mk (below_step (by repeat (first | (with_reducible first | exact HB.out | apply below_alloc | apply pw_below_drewN | apply below_drew1 | refine below_set ?_ GE219.out | refine below_set ?_ GE220.out | refine below_set ?_ GE221.out | refine below_set ?_ GE222.out) | exact HB.out)) hb); have n5_ := Aside0.mk (hbox); have n6_ := Aside0.mk ((by rw [hg]; exact (below_size (by repeat (first | (with_reducible first | exact HB.out | apply below_alloc | apply pw_below_drewN | apply below_drew1 | refine below_set ?_ GE219.out | refine below_set ?_ GE220.out | refine below_set ?_ GE221.out | refine below_set ?_ GE222.out) | exact HB.out))) : w.heap.size ≤ gb223)); have n7_ := Aside0.mk ((by rw [hg]; exact (below_size (by repeat (first | (with_reducible first | exact HB.out | apply below_alloc | apply pw_below_drewN | apply below_drew1 | refine below_set ?_ GE219.out | refine below_set ?_ GE220.out | refine below_set ?_ GE221.out | refine below_set ?_ GE222.out) | exact HB.out))) : w.heap.size ≤ gb223)); have n8_ := Aside0.mk ((by rw [hg]; exact Nat.ne_of_lt (blk_lt (g := gb219) (o := .cells #[.string a0] 9 (0, 0)) (by (with_reducible repeat (first | refine blk_drewN ?_ _ | refine blk_drew ?_ | refine blk_alloc ?_ _)); refine blk_far ?_ NB219_222.out _; (with_reducible repeat (first | refine blk_drewN ?_ _ | refine blk_drew ?_ | refine blk_alloc ?_ _)); refine blk_far ?_ NB219_222.out _; (with_reducible repeat (first | refine blk_drewN ?_ _ | refine blk_drew ?_ | refine blk_alloc ?_ _)); refine blk_far ?_ NB219_222.out _; (with_reducible repeat (first | refine blk_drewN ?_ _ | refine blk_drew ?_ | refine blk_alloc ?_ _)); refine blk_far ?_ NB219_221.out _; (with_reducible repeat (first | refine blk_drewN ?_ _ | refine blk_drew ?_ | refine blk_alloc ?_ _)); refine blk_far ?_ NB219_221.out _; (with_reducible repeat (first | refine blk_drewN ?_ _ | refine blk_drew ?_ | refine blk_alloc ?_ _)); refine blk_far ?_ NB219_221.out _; (with_reducible repeat (first | refine blk_drewN ?_ _ | refine blk_drew ?_ | refine blk_alloc ?_ _)); exact BK219.out)) : gb219 ≠ gb223)); have n9_ := Aside0.mk ((by rw [hg]; exact Nat.ne_of_gt (blk_lt (g := gb219) (o := .cells #[.string a0] 9 (0, 0)) (by (with_reducible repeat (first | refine blk_drewN ?_ _ | refine blk_drew ?_ | refine blk_alloc ?_ _)); refine blk_far ?_ NB219_222.out _; (with_reducible repeat (first | refine blk_drewN ?_ _ | refine blk_drew ?_ | refine blk_alloc ?_ _)); refine blk_far ?_ NB219_222.out _; (with_reducible repeat (first | refine blk_drewN ?_ _ | refine blk_drew ?_ | refine blk_alloc ?_ _)); refine blk_far ?_ NB219_222.out _; (with_reducible repeat (first | refine blk_drewN ?_ _ | refine blk_drew ?_ | refine blk_alloc ?_ _)); refine blk_far ?_ NB219_221.out _; (with_reducible repeat (first | refine blk_drewN ?_ _ | refine blk_drew ?_ | refine blk_alloc ?_ _)); refine blk_far ?_ NB219_221.out _; (with_reducible repeat (first | refine blk_drewN ?_ _ | refine blk_drew ?_ | refine blk_alloc ?_ _)); refine blk_far ?_ NB219_221.out _; (with_reducible repeat (first | refine blk_drewN ?_ _ | refine blk_drew ?_ | refine blk_alloc ?_ _)); exact BK219.out)) : gb223 ≠ gb219)); have n10_ := Aside0.mk ((by rw [hg]; exact Nat.ne_of_lt (blk_lt (g := gb220) (o := .cells #[.string a1] 9 (0, 0)) (by (with_reducible repeat (first | refine blk_drewN ?_ _ | refine blk_drew ?_ | refine blk_alloc ?_ _)); refine blk_far ?_ NB220_222.out _; (with_reducible repeat (first | refine blk_drewN ?_ _ | refine blk_drew ?_ | refine blk_alloc ?_ _)); refine blk_far ?_ NB220_222.out _; (with_reducible repeat (first | refine blk_drewN ?_ _ | refine blk_drew ?_ | refine blk_alloc ?_ _)); refine blk_far ?_ NB220_222.out _; (with_reducible repeat (first | refine blk_drewN ?_ _ | refine blk_drew ?_ | refine blk_alloc ?_ _)); refine blk_far ?_ NB220_221.out _; (with_reducible repeat (first | refine blk_drewN ?_ _ | refine blk_drew ?_ | refine blk_alloc ?_ _)); refine blk_far ?_ NB220_221.out _; (with_reducible repeat (first | refine blk_drewN ?_ _ | refine blk_drew ?_ | refine blk_alloc ?_ _)); refine blk_far ?_ NB220_221.out _; (with_reducible repeat (first | refine blk_drewN ?_ _ | refine blk_drew ?_ | refine blk_alloc ?_ _)); exact BK220.out)) : gb220 ≠ gb223)); have n11_ := Aside0.mk ((by rw [hg]; exact Nat.ne_of_gt (blk_lt (g := gb220) (o := .cells #[.string a1] 9 (0, 0)) (by (with_reducible repeat (first | refine blk_drewN ?_ _ | refine blk_drew ?_ | refine blk_alloc ?_ _)); refine blk_far ?_ NB220_222.out _; (with_reducible repeat (first | refine blk_drewN ?_ _ | refine blk_drew ?_ | refine blk_alloc ?_ _)); refine blk_far ?_ NB220_222.out _; (with_reducible repeat (first | refine blk_drewN ?_ _ | refine blk_drew ?_ | refine blk_alloc ?_ _)); refine blk_far ?_ NB220_222.out _; (with_reducible repeat (first | refine blk_drewN ?_ _ | refine blk_drew ?_ | refine blk_alloc ?_ _)); refine blk_far ?_ NB220_221.out _; (with_reducible repeat (first | refine blk_drewN ?_ _ | refine blk_drew ?_ | refine blk_alloc ?_ _)); refine blk_far ?_ NB220_221.out _; (with_reducible repeat (first | refine blk_drewN ?_ _ | refine blk_drew ?_ | refine blk_alloc ?_ _)); refine blk_far ?_ NB220_221.out _; (with_reducible repeat (first | refine blk_drewN ?_ _ | refine blk_drew ?_ | refine blk_alloc ?_ _)); exact BK220.out)) : gb223 ≠ gb220)); have n12_ := Aside0.mk ((by rw [hg]; exact Nat.ne_of_lt (blk_lt (g := gb221) (o := .cells #[.string (⟨#[]⟩ : ByteArray), .string (⟨#[]⟩ : ByteArray), .string (⟨#[]⟩ : ByteArray)] 44 (0, 0)) (by (with_reducible repeat (first | refine blk_drewN ?_ _ | refine blk_drew ?_ | refine blk_alloc ?_ _)); refine blk_far ?_ NB221_222.out _; (with_reducible repeat (first | refine blk_drewN ?_ _ | refine blk_drew ?_ | refine blk_alloc ?_ _)); refine blk_far ?_ NB221_222.out _; (with_reducible repeat (first | refine blk_drewN ?_ _ | refine blk_drew ?_ | refine blk_alloc ?_ _)); refine blk_far ?_ NB221_222.out _; (with_reducible repeat (first | refine blk_drewN ?_ _ | refine blk_drew ?_ | refine blk_alloc ?_ _)); refine blk_put (cs := #[.string (⟨#[]⟩ : ByteArray), .string (⟨#[]⟩ : ByteArray), .string (⟨#[]⟩ : ByteArray)]) ?_ 2 _ rfl; (with_reducible repeat (first | refine blk_drewN ?_ _ | refine blk_drew ?_ | refine blk_alloc ?_ _)); refine blk_put (cs := #[.string (⟨#[]⟩ : ByteArray), .string (⟨#[]⟩ : ByteArray), .string (⟨#[]⟩ : ByteArray)]) ?_ 1 _ rfl; (with_reducible repeat (first | refine blk_drewN ?_ _ | refine blk_drew ?_ | refine blk_alloc ?_ _)); refine blk_put (cs := #[.string (⟨#[]⟩ : ByteArray), .string (⟨#[]⟩ : ByteArray), .string (⟨#[]⟩ : ByteArray)]) ?_ 0 _ rfl; (with_reducible repeat (first | refine blk_drewN ?_ _ | refine blk_drew ?_ | refine blk_alloc ?_ _)); exact BK221.out)) : gb221 ≠ gb223)); have n13_ := Aside0.mk ((by rw [hg]; exact Nat.ne_of_gt (blk_lt (g := gb221) (o := .cells #[.string (⟨#[]⟩ : ByteArray), .string (⟨#[]⟩ : ByteArray), .string (⟨#[]⟩ : ByteArray)] 44 (0, 0)) (by (with_reducible repeat (first | refine blk_drewN ?_ _ | refine blk_drew ?_ | refine blk_alloc ?_ _)); refine blk_far ?_ NB221_222.out _; (with_reducible repeat (first | refine blk_drewN ?_ _ | refine blk_drew ?_ | refine blk_alloc ?_ _)); refine blk_far ?_ NB221_222.out _; (with_reducible repeat (first | refine blk_drewN ?_ _ | refine blk_drew ?_ | refine blk_alloc ?_ _)); refine blk_far ?_ NB221_222.out _; (with_reducible repeat (first | refine blk_drewN ?_ _ | refine blk_drew ?_ | refine blk_alloc ?_ _)); refine blk_put (cs := #[.string (⟨#[]⟩ : ByteArray), .string (⟨#[]⟩ : ByteArray), .string (⟨#[]⟩ : ByteArray)]) ?_ 2 _ rfl; (with_reducible repeat (first | refine blk_drewN ?_ _ | refine blk_drew ?_ | refine blk_alloc ?_ _)); refine blk_put (cs := #[.string (⟨#[]⟩ : ByteArray), .string (⟨#[]⟩ : ByteArray), .string (⟨#[]⟩ : ByteArray)]) ?_ 1 _ rfl; (with_reducible repeat (first | refine blk_drewN ?_ _ | refine blk_drew ?_ | refine blk_alloc ?_ _)); refine blk_put (cs := #[.string (⟨#[]⟩ : ByteArray), .string (⟨#[]⟩ : ByteArray), .string (⟨#[]⟩ : ByteArray)]) ?_ 0 _ rfl; (with_reducible repeat (first | refine blk_drewN ?_ _ | refine blk_drew ?_ | refine blk_alloc ?_ _)); exact BK221.out)) : gb223 ≠ gb221)); have n14_ := Aside0.mk ((by rw [hg]; exact Nat.ne_of_lt (blk_lt (g := gb222) (o := .cells #[.string (⟨#[]⟩ : ByteArray), .string (⟨#[]⟩ : ByteArray), .string (⟨#[]⟩ : ByteArray)] 44 (0, 0)) (by (with_reducible repeat (first | refine blk_drewN ?_ _ | refine blk_drew ?_ | refine blk_alloc ?_ _)); refine blk_put (cs := #[.string (⟨#[]⟩ : ByteArray), .string (⟨#[]⟩ : ByteArray), .string (⟨#[]⟩ : ByteArray)]) ?_ 2 _ rfl; (with_reducible repeat (first | refine blk_drewN ?_ _ | refine blk_drew ?_ | refine blk_alloc ?_ _)); refine blk_put (cs := #[.string (⟨#[]⟩ : ByteArray), .string (⟨#[]⟩ : ByteArray), .string (⟨#[]⟩ : ByteArray)]) ?_ 1 _ rfl; (with_reducible repeat (first | refine blk_drewN ?_ _ | refine blk_drew ?_ | refine blk_alloc ?_ _)); refine blk_put (cs := #[.string (⟨#[]⟩ : ByteArray), .string (⟨#[]⟩ : ByteArray), .string (⟨#[]⟩ : ByteArray)]) ?_ 0 _ rfl; (with_reducible repeat (first | refine blk_drewN ?_ _ | refine blk_drew ?_ | refine blk_alloc ?_ _)); refine blk_far ?_ NB222_221.out _; (with_reducible repeat (first | refine blk_drewN ?_ _ | refine blk_drew ?_ | refine blk_alloc ?_ _)); refine blk_far ?_ NB222_221.out _; (with_reducible repeat (first | refine blk_drewN ?_ _ | refine blk_drew ?_ | refine blk_alloc ?_ _)); refine blk_far ?_ NB222_221.out _; (with_reducible repeat (first | refine blk_drewN ?_ _ | refine blk_drew ?_ | refine blk_alloc ?_ _)); exact BK222.out)) : gb222 ≠ gb223)); have n15_ := Aside0.mk ((by rw [hg]; exact Nat.ne_of_gt (blk_lt (g := gb222) (o := .cells #[.string (⟨#[]⟩ : ByteArray), .string (⟨#[]⟩ : ByteArray), .string (⟨#[]⟩ : ByteArray)] 44 (0, 0)) (by (with_reducible repeat (first | refine blk_drewN ?_ _ | refine blk_drew ?_ | refine blk_alloc ?_ _)); refine blk_put (cs := #[.string (⟨#[]⟩ : ByteArray), .string (⟨#[]⟩ : ByteArray), .string (⟨#[]⟩ : ByteArray)]) ?_ 2 _ rfl; (with_reducible repeat (first | refine blk_drewN ?_ _ | refine blk_drew ?_ | refine blk_alloc ?_ _)); refine blk_put (cs := #[.string (⟨#[]⟩ : ByteArray), .string (⟨#[]⟩ : ByteArray), .string (⟨#[]⟩ : ByteArray)]) ?_ 1 _ rfl; (with_reducible repeat (first | refine blk_drewN ?_ _ | refine blk_drew ?_ | refine blk_alloc ?_ _)); refine blk_put (cs := #[.string (⟨#[]⟩ : ByteArray), .string (⟨#[]⟩ : ByteArray), .string (⟨#[]⟩ : ByteArray)]) ?_ 0 _ rfl; (with_reducible repeat (first | refine blk_drewN ?_ _ | refine blk_drew ?_ | refine blk_alloc ?_ _)); refine blk_far ?_ NB222_221.out _; (with_reducible repeat (first | refine blk_drewN ?_ _ | refine blk_drew ?_ | refine blk_alloc ?_ _)); refine blk_far ?_ NB222_221.out _; (with_reducible repeat (first | refine blk_drewN ?_ _ | refine blk_drew ?_ | refine blk_alloc ?_ _)); refine blk_far ?_ NB222_221.out _; (with_reducible repeat (first | refine blk_drewN ?_ _ | refine blk_drew ?_ | refine blk_alloc ?_ _)); exact BK222.out)) : gb223 ≠ gb222)); clear BK219; clear BK220; clear BK221; clear BK222; clear HB; have BK219 := n0_; have BK220 := n1_; have BK221 := n2_; have BK222 := n3_; have HB := n4_; have BK223 := n5_; have GW223 := n6_; have GE223 := n7_; have NB219_223 := n8_; have NB223_219 := n9_; have NB220_223 := n10_; have NB223_220 := n11_; have NB221_223 := n12_; have NB223_221 := n13_; have NB222_223 := n14_; have NB223_222 := n15_; clear n0_ n1_ n2_ n3_ n4_ n5_ n6_ n7_ n8_ n9_ n10_ n11_ n12_ n13_ n14_ n15_; clear hb hbox hg) | ((with_reducible refine gate_dst (N := 8) rfl ?_); refine box_event ?hg (N := 8) ?hd (cs := #[.int .i64 0]) (t := 23) ?hr ?_; (case hd => rfl); (case hg => rfl); (case hr => first | (go_simp; done) | (go_simp; rfl)); intro gb224 hg w21 hbox hb; have n0_ := Aside0.mk (blk_below (g := gb219) (o := .cells #[.string a0] 9 (0, 0)) (by (with_reducible repeat (first | refine blk_drewN ?_ _ | refine blk_drew ?_ | refine blk_alloc ?_ _)); exact BK219.out) hb); have n1_ := Aside0.mk (blk_below (g := gb220) (o := .cells #[.string a1] 9 (0, 0)) (by (with_reducible repeat (first | refine blk_drewN ?_ _ | refine blk_drew ?_ | refine blk_alloc ?_ _)); exact BK220.out) hb); have n2_ := Aside0.mk (blk_below (g := gb221) (o := .cells #[.string (⟨#[]⟩ : ByteArray), .string (⟨#[]⟩ : ByteArray), .string (⟨#[]⟩ : ByteArray)] 44 (0, 0)) (by (with_reducible repeat (first | refine blk_drewN ?_ _ | refine blk_drew ?_ | refine blk_alloc ?_ _)); exact BK221.out) hb); have n3_ := Aside0.mk (blk_below (g := gb222) (o := .cells #[.string (⟨#[]⟩ : ByteArray), .string (⟨#[]⟩ : ByteArray), .string (⟨#[]⟩ : ByteArray)] 44 (0, 0)) (by (with_reducible repeat (first | refine blk_drewN ?_ _ | refine blk_drew ?_ | refine blk_alloc ?_ _)); exact BK222.out) hb); have n4_ := Aside0.mk (blk_below (g := gb223) (o := .cells #[.int .i64 0] 23 (0, 0)) (by (with_reducible repeat (first | refine blk_drewN ?_ _ | refine blk_drew ?_ | refine blk_alloc ?_ _)); exact BK223.out) hb); have n5_ := Aside0.mk (below_step (by repeat (first | (with_reducible first | exact HB.out | apply below_alloc | apply pw_below_drewN | apply below_drew1 | refine below_set ?_ GE219.out | refine below_set ?_ GE220.out | refine below_set ?_ GE221.out | refine below_set ?_ GE222.out | refine below_set ?_ GE223.out) | exact HB.out)) hb); have n6_ := Aside0.mk (hbox); have n7_ := Aside0.mk ((by rw [hg]; exact (below_size (by repeat (first | (with_reducible first | exact HB.out | apply below_alloc | apply pw_below_drewN | apply below_drew1 | refine below_set ?_ GE219.out | refine below_set ?_ GE220.out | refine below_set ?_ GE221.out | refine below_set ?_ GE222.out | refine below_set ?_ GE223.out) | exact HB.out))) : w.heap.size ≤ gb224)); have n8_ := Aside0.mk ((by rw [hg]; exact (below_size (by repeat (first | (with_reducible first | exact HB.out | apply below_alloc | apply pw_below_drewN | apply below_drew1 | refine below_set ?_ GE219.out | refine below_set ?_ GE220.out | refine below_set ?_ GE221.out | refine below_set ?_ GE222.out | refine below_set ?_ GE223.out) | exact HB.out))) : w.heap.size ≤ gb224)); have n9_ := Aside0.mk ((by rw [hg]; exact Nat.ne_of_lt (blk_lt (g := gb219) (o := .cells #[.string a0] 9 (0, 0)) (by (with_reducible repeat (first | refine blk_drewN ?_ _ | refine blk_drew ?_ | refine blk_alloc ?_ _)); exact BK219.out)) : gb219 ≠ gb224)); have n10_ := Aside0.mk ((by rw [hg]; exact Nat.ne_of_gt (blk_lt (g := gb219) (o := .cells #[.string a0] 9 (0, 0)) (by (with_reducible repeat (first | refine blk_drewN ?_ _ | refine blk_drew ?_ | refine blk_alloc ?_ _)); exact BK219.out)) : gb224 ≠ gb219)); have n11_ := Aside0.mk ((by rw [hg]; exact Nat.ne_of_lt (blk_lt (g := gb220) (o := .cells #[.string a1] 9 (0, 0)) (by (with_reducible repeat (first | refine blk_drewN ?_ _ | refine blk_drew ?_ | refine blk_alloc ?_ _)); exact BK220.out)) : gb220 ≠ gb224)); have n12_ := Aside0.mk ((by rw [hg]; exact Nat.ne_of_gt (blk_lt (g := gb220) (o := .cells #[.string a1] 9 (0, 0)) (by (with_reducible repeat (first | refine blk_drewN ?_ _ | refine blk_drew ?_ | refine blk_alloc ?_ _)); exact BK220.out)) : gb224 ≠ gb220)); have n13_ := Aside0.mk ((by rw [hg]; exact Nat.ne_of_lt (blk_lt (g := gb221) (o := .cells #[.string (⟨#[]⟩ : ByteArray), .string (⟨#[]⟩ : ByteArray), .string (⟨#[]⟩ : ByteArray)] 44 (0, 0)) (by (with_reducible repeat (first | refine blk_drewN ?_ _ | refine blk_drew ?_ | refine blk_alloc ?_ _)); exact BK221.out)) : gb221 ≠ gb224)); have n14_ := Aside0.mk ((by rw [hg]; exact Nat.ne_of_gt (blk_lt (g := gb221) (o := .cells #[.string (⟨#[]⟩ : ByteArray), .string (⟨#[]⟩ : ByteArray), .string (⟨#[]⟩ : ByteArray)] 44 (0, 0)) (by (with_reducible repeat (first | refine blk_drewN ?_ _ | refine blk_drew ?_ | refine blk_alloc ?_ _)); exact BK221.out)) : gb224 ≠ gb221)); have n15_ := Aside0.mk ((by rw [hg]; exact Nat.ne_of_lt (blk_lt (g := gb222) (o := .cells #[.string (⟨#[]⟩ : ByteArray), .string (⟨#[]⟩ : ByteArray), .string (⟨#[]⟩ : ByteArray)] 44 (0, 0)) (by (with_reducible repeat (first | refine blk_drewN ?_ _ | refine blk_drew ?_ | refine blk_alloc ?_ _)); exact BK222.out)) : gb222 ≠ gb224)); have n16_ := Aside0.mk ((by rw [hg]; exact Nat.ne_of_gt (blk_lt (g := gb222) (o := .cells #[.string (⟨#[]⟩ : ByteArray), .string (⟨#[]⟩ : ByteArray), .string (⟨#[]⟩ : ByteArray)] 44 (0, 0)) (by (with_reducible repeat (first | refine blk_drewN ?_ _ | refine blk_drew ?_ | refine blk_alloc ?_ _)); exact BK222.out)) : gb224 ≠ gb222)); have n17_ := Aside0.mk ((by rw [hg]; exact Nat.ne_of_lt (blk_lt (g := gb223) (o := .cells #[.int .i64 0] 23 (0, 0)) (by (with_reducible repeat (first | refine blk_drewN ?_ _ | refine blk_drew ?_ | refine blk_alloc ?_ _)); exact BK223.out)) : gb223 ≠ gb224)); have n18_ := Aside0.mk ((by rw [hg]; exact Nat.ne_of_gt (blk_lt (g := gb223) (o := .cells #[.int .i64 0] 23 (0, 0)) (by (with_reducible repeat (first | refine blk_drewN ?_ _ | refine blk_drew ?_ | refine blk_alloc ?_ _)); exact BK223.out)) : gb224 ≠ gb223)); clear BK219; clear BK220; clear BK221; clear BK222; clear BK223; clear HB; have BK219 := n0_; have BK220 := n1_; have BK221 := n2_; have BK222 := n3_; have BK223 := n4_; have HB := n5_; have BK224 := n6_; have GW224 := n7_; have GE224 := n8_; have NB219_224 := n9_; have NB224_219 := n10_; have NB220_224 := n11_; have NB224_220 := n12_; have NB221_224 := n13_; have NB224_221 := n14_; have NB222_224 := n15_; have NB224_222 := n16_; have NB223_224 := n17_; have NB224_223 := n18_; clear n0_ n1_ n2_ n3_ n4_ n5_ n6_ n7_ n8_ n9_ n10_ n11_ n12_ n13_ n14_ n15_ n16_ n17_ n18_; clear hb hbox hg) | (go_at_call 26; (with_reducible refine (ver_Compare_1.calls k gb223 gb219 gb221 0 a0 (⟨#[]⟩ : ByteArray) (⟨#[]⟩ : ByteArray) (⟨#[]⟩ : ByteArray) t225 t226 t227 t228 _ (by (with_reducible repeat (first | refine blk_drewN ?_ _ | refine blk_drew ?_ | refine blk_alloc ?_ _)); exact BK223.out) (by (with_reducible repeat (first | refine blk_drewN ?_ _ | refine blk_drew ?_ | refine blk_alloc ?_ _)); exact BK219.out) (by (with_reducible repeat (first | refine blk_drewN ?_ _ | refine blk_drew ?_ | refine blk_alloc ?_ _)); exact BK221.out) NB223_219.out NB223_221.out NB219_221.out A3.out).mono ?_); rintro e w22 ⟨rfl, hx0, hx2, hkp, hbl⟩; have n0_ := Aside0.mk (hx0); have n1_ := Aside0.mk (hx2); have n2_ := Aside0.mk (blk_kept (by (with_reducible repeat (first | refine blk_drewN ?_ _ | refine blk_drew ?_ | refine blk_alloc ?_ _)); exact BK219.out) hkp (fun hs_ => Or.elim hs_ NB219_223.out NB219_221.out)); have n3_ := Aside0.mk (blk_kept (by (with_reducible repeat (first | refine blk_drewN ?_ _ | refine blk_drew ?_ | refine blk_alloc ?_ _)); exact BK220.out) hkp (fun hs_ => Or.elim hs_ NB220_223.out NB220_221.out)); have n4_ := Aside0.mk (blk_kept (by (with_reducible repeat (first | refine blk_drewN ?_ _ | refine blk_drew ?_ | refine blk_alloc ?_ _)); exact BK222.out) hkp (fun hs_ => Or.elim hs_ NB222_223.out NB222_221.out)); have n5_ := Aside0.mk (blk_kept (by (with_reducible repeat (first | refine blk_drewN ?_ _ | refine blk_drew ?_ | refine blk_alloc ?_ _)); exact BK224.out) hkp (fun hs_ => Or.elim hs_ NB224_223.out NB224_221.out)); have n6_ := Aside0.mk (below_weaken (by repeat (first | (with_reducible first | exact HB.out | apply below_alloc | apply pw_below_drewN | apply below_drew1 | refine below_set ?_ GE219.out | refine below_set ?_ GE220.out | refine below_set ?_ GE221.out | refine below_set ?_ GE222.out | refine below_set ?_ GE223.out | refine below_set ?_ GE224.out) | exact HB.out)) (Nat.le_refl _) (hbl w.heap.size GE223.out GE221.out)); clear BK223; clear BK221; clear BK219; clear BK220; clear BK222; clear BK224; clear HB; have BK223 := n0_; have BK221 := n1_; have BK219 := n2_; have BK220 := n3_; have BK222 := n4_; have BK224 := n5_; have HB := n6_; clear n0_ n1_ n2_ n3_ n4_ n5_ n6_; (try clear hkp); (try clear hbl); (try clear hx0); (try clear hx2)) | (go_at_call 27; (with_reducible refine (ver_Compare_2.calls k gb224 gb220 gb222 0 a1 (⟨#[]⟩ : ByteArray) (⟨#[]⟩ : ByteArray) (⟨#[]⟩ : ByteArray) t229 t230 t231 t232 _ (by (with_reducible repeat (first | refine blk_drewN ?_ _ | refine blk_drew ?_ | refine blk_alloc ?_ _)); exact BK224.out) (by (with_reducible repeat (first | refine blk_drewN ?_ _ | refine blk_drew ?_ | refine blk_alloc ?_ _)); exact BK220.out) (by (with_reducible repeat (first | refine blk_drewN ?_ _ | refine blk_drew ?_ | refine blk_alloc ?_ _)); exact BK222.out) NB224_220.out NB224_222.out NB220_222.out A4.out).mono ?_); rintro e w23 ⟨rfl, hx0, hx2, hkp, hbl⟩; have n0_ := Aside0.mk (hx0); have n1_ := Aside0.mk (hx2); have n2_ := Aside0.mk (blk_kept (by (with_reducible repeat (first | refine blk_drewN ?_ _ | refine blk_drew ?_ | refine blk_alloc ?_ _)); exact BK219.out) hkp (fun hs_ => Or.elim hs_ NB219_224.out NB219_222.out)); have n3_ := Aside0.mk (blk_kept (by (with_reducible repeat (first | refine blk_drewN ?_ _ | refine blk_drew ?_ | refine blk_alloc ?_ _)); exact BK220.out) hkp (fun hs_ => Or.elim hs_ NB220_224.out NB220_222.out)); have n4_ := Aside0.mk (blk_kept (by (with_reducible repeat (first | refine blk_drewN ?_ _ | refine blk_drew ?_ | refine blk_alloc ?_ _)); exact BK221.out) hkp (fun hs_ => Or.elim hs_ NB221_224.out NB221_222.out)); have n5_ := Aside0.mk (blk_kept (by (with_reducible repeat (first | refine blk_drewN ?_ _ | refine blk_drew ?_ | refine blk_alloc ?_ _)); exact BK223.out) hkp (fun hs_ => Or.elim hs_ NB223_224.out NB223_222.out)); have n6_ := Aside0.mk (below_weaken (by repeat (first | (with_reducible first | exact HB.out | apply below_alloc | apply pw_below_drewN | apply below_drew1 | refine below_set ?_ GE219.out | refine below_set ?_ GE220.out | refine below_set ?_ GE221.out | refine below_set ?_ GE222.out | refine below_set ?_ GE223.out | refine below_set ?_ GE224.out) | exact HB.out)) (Nat.le_refl _) (hbl w.heap.size GE224.out GE222.out)); clear BK224; clear BK222; clear BK219; clear BK220; clear BK221; clear BK223; clear HB; have BK224 := n0_; have BK222 := n1_; have BK219 := n2_; have BK220 := n3_; have BK221 := n4_; have BK223 := n5_; have HB := n6_; clear n0_ n1_ n2_ n3_ n4_ n5_ n6_; (try clear hkp); (try clear hbl); (try clear hx0); (try clear hx2)))
  have n0_ := Aside0.mk (blk_drew BK219.out)
  have n1_ := Aside0.mk (blk_drew BK220.out)
  have n2_ := Aside0.mk (blk_drew BK221.out)
  have n3_ := Aside0.mk (blk_drew BK222.out)
  have n4_ := Aside0.mk (blk_drew BK223.out)
  have n5_ := Aside0.mk (blk_drew BK224.out)
  have n6_ := Aside0.mk (below_drew1 HB.out)
  clear BK219
  clear BK220
  clear BK221
  clear BK222
  clear BK223
  clear BK224
  clear HB
  have BK219 := n0_
  have BK220 := n1_
  have BK221 := n2_
  have BK222 := n3_
  have BK223 := n4_
  have BK224 := n5_
  have HB := n6_
  clear n0_ n1_ n2_ n3_ n4_ n5_ n6_
  refine start_ (n := 18) (S := fun w' => w'.cell? ⟨gb221, 0, none⟩ = some (.string t226) ∧ w'.cell? ⟨gb221, 1, none⟩ = some (.string t227) ∧ w'.cell? ⟨gb221, 2, none⟩ = some (.string t228) ∧ w'.cell? ⟨gb222, 0, none⟩ = some (.string t230) ∧ w'.cell? ⟨gb222, 1, none⟩ = some (.string t231) ∧ w'.cell? ⟨gb222, 2, none⟩ = some (.string t232)) (ds := []) #[false, false, false, false, false, false, false, false, false, false, false, false, false, false, false, false, false, false] (by kernel_rfl) rfl rfl ⟨(blk_cell BK221.out 0).trans rfl, (blk_cell BK221.out 1).trans rfl, (blk_cell BK221.out 2).trans rfl, (blk_cell BK222.out 0).trans rfl, (blk_cell BK222.out 1).trans rfl, (blk_cell BK222.out 2).trans rfl⟩ (fun hHeld => ?_); refine with_tabW ver_Compare.tab5 ver_Compare.bits5 (fun HT_ HW_ => ?_)
  generalize w23.drew = w24 at BK219 BK220 BK221 BK222 BK223 BK224 HB hHeld ⊢
  refine pure_ (i := 0) (N := some 15) (v := ?_) (a' := ?_) #[true, false, false, false, false, false, false, false, false, false, false, false, false, false, false, false, false, false] rfl rfl (any_of HT_.out (by kernel_rfl)) (fun _ _ _ h => h) (Or.inl ⟨by rfl, ?_⟩) ?_ ?_
  rotate_left
  · intro w'
    go_simp
    with_reducible rfl
  rotate_left
  · simp only [Act.put, List.setIfInBounds_toArray, List.set_cons_zero, List.set_cons_succ, i64_w, i32_w]
    rfl
  refine pure_ (i := 2) (N := some 17) (v := ?_) (a' := ?_) #[true, false, true, false, false, false, false, false, false, false, false, false, false, false, false, false, false, false] rfl rfl (any_of HT_.out (by kernel_rfl)) (fun _ _ _ h => h) (Or.inl ⟨by rfl, ?_⟩) ?_ ?_
  rotate_left
  · intro w'
    go_simp
    with_reducible rfl
  rotate_left
  · simp only [Act.put, List.setIfInBounds_toArray, List.set_cons_zero, List.set_cons_succ, i64_w, i32_w]
    rfl
  refine pure_ (i := 5) (N := some 20) (v := ?_) (a' := ?_) #[true, false, true, false, false, true, false, false, false, false, false, false, false, false, false, false, false, false] rfl rfl (any_of HT_.out (by kernel_rfl)) (fun _ _ _ h => h) (Or.inl ⟨by rfl, ?_⟩) ?_ ?_
  rotate_left
  · intro w'
    go_simp
    with_reducible rfl
  rotate_left
  · simp only [Act.put, List.setIfInBounds_toArray, List.set_cons_zero, List.set_cons_succ, i64_w, i32_w]
    rfl
  refine pure_ (i := 7) (N := some 22) (v := ?_) (a' := ?_) #[true, false, true, false, false, true, false, true, false, false, false, false, false, false, false, false, false, false] rfl rfl (any_of HT_.out (by kernel_rfl)) (fun _ _ _ h => h) (Or.inl ⟨by rfl, ?_⟩) ?_ ?_
  rotate_left
  · intro w'
    go_simp
    with_reducible rfl
  rotate_left
  · simp only [Act.put, List.setIfInBounds_toArray, List.set_cons_zero, List.set_cons_succ, i64_w, i32_w]
    rfl
  refine pure_ (i := 10) (N := some 25) (v := ?_) (a' := ?_) #[true, false, true, false, false, true, false, true, false, false, true, false, false, false, false, false, false, false] rfl rfl (any_of HT_.out (by kernel_rfl)) (fun _ _ _ h => h) (Or.inl ⟨by rfl, ?_⟩) ?_ ?_
  rotate_left
  · intro w'
    go_simp
    with_reducible rfl
  rotate_left
  · simp only [Act.put, List.setIfInBounds_toArray, List.set_cons_zero, List.set_cons_succ, i64_w, i32_w]
    rfl
  refine pure_ (i := 12) (N := some 27) (v := ?_) (a' := ?_) #[true, false, true, false, false, true, false, true, false, false, true, false, true, false, false, false, false, false] rfl rfl (any_of HT_.out (by kernel_rfl)) (fun _ _ _ h => h) (Or.inl ⟨by rfl, ?_⟩) ?_ ?_
  rotate_left
  · intro w'
    go_simp
    with_reducible rfl
  rotate_left
  · simp only [Act.put, List.setIfInBounds_toArray, List.set_cons_zero, List.set_cons_succ, i64_w, i32_w]
    rfl
  refine take_ (i := 1) (N := some 16) (v := ?_) (a' := ?_) #[true, true, true, false, false, true, false, true, false, false, true, false, true, false, false, false, false, false] rfl rfl (take_ofW HT_.out HW_.out (by kernel_rfl)) (fun _ _ _ h => h) (Or.inl ⟨by rfl, ?_⟩) hHeld ?_ ?_
  rotate_left
  · rintro w' ⟨s0, s1, s2, s3, s4, s5⟩
    go_simp
    with_reducible rfl
  rotate_left
  · simp only [Act.put, List.setIfInBounds_toArray, List.set_cons_zero, List.set_cons_succ, i64_w, i32_w]
    rfl
  refine take_ (i := 3) (N := some 18) (v := ?_) (a' := ?_) #[true, true, true, true, false, true, false, true, false, false, true, false, true, false, false, false, false, false] rfl rfl (take_ofW HT_.out HW_.out (by kernel_rfl)) (fun _ _ _ h => h) (Or.inl ⟨by rfl, ?_⟩) hHeld ?_ ?_
  rotate_left
  · rintro w' ⟨s0, s1, s2, s3, s4, s5⟩
    go_simp
    with_reducible rfl
  rotate_left
  · simp only [Act.put, List.setIfInBounds_toArray, List.set_cons_zero, List.set_cons_succ, i64_w, i32_w]
    rfl
  refine take_ (i := 6) (N := some 21) (v := ?_) (a' := ?_) #[true, true, true, true, false, true, true, true, false, false, true, false, true, false, false, false, false, false] rfl rfl (take_ofW HT_.out HW_.out (by kernel_rfl)) (fun _ _ _ h => h) (Or.inl ⟨by rfl, ?_⟩) hHeld ?_ ?_
  rotate_left
  · rintro w' ⟨s0, s1, s2, s3, s4, s5⟩
    go_simp
    with_reducible rfl
  rotate_left
  · simp only [Act.put, List.setIfInBounds_toArray, List.set_cons_zero, List.set_cons_succ, i64_w, i32_w]
    rfl
  refine take_ (i := 8) (N := some 23) (v := ?_) (a' := ?_) #[true, true, true, true, false, true, true, true, true, false, true, false, true, false, false, false, false, false] rfl rfl (take_ofW HT_.out HW_.out (by kernel_rfl)) (fun _ _ _ h => h) (Or.inl ⟨by rfl, ?_⟩) hHeld ?_ ?_
  rotate_left
  · rintro w' ⟨s0, s1, s2, s3, s4, s5⟩
    go_simp
    with_reducible rfl
  rotate_left
  · simp only [Act.put, List.setIfInBounds_toArray, List.set_cons_zero, List.set_cons_succ, i64_w, i32_w]
    rfl
  refine take_ (i := 11) (N := some 26) (v := ?_) (a' := ?_) #[true, true, true, true, false, true, true, true, true, false, true, true, true, false, false, false, false, false] rfl rfl (take_ofW HT_.out HW_.out (by kernel_rfl)) (fun _ _ _ h => h) (Or.inl ⟨by rfl, ?_⟩) hHeld ?_ ?_
  rotate_left
  · rintro w' ⟨s0, s1, s2, s3, s4, s5⟩
    go_simp
    with_reducible rfl
  rotate_left
  · simp only [Act.put, List.setIfInBounds_toArray, List.set_cons_zero, List.set_cons_succ, i64_w, i32_w]
    rfl
  refine take_ (i := 13) (N := some 28) (v := ?_) (a' := ?_) #[true, true, true, true, false, true, true, true, true, false, true, true, true, true, false, false, false, false] rfl rfl (take_ofW HT_.out HW_.out (by kernel_rfl)) (fun _ _ _ h => h) (Or.inl ⟨by rfl, ?_⟩) hHeld ?_ ?_
  rotate_left
  · rintro w' ⟨s0, s1, s2, s3, s4, s5⟩
    go_simp
    with_reducible rfl
  rotate_left
  · simp only [Act.put, List.setIfInBounds_toArray, List.set_cons_zero, List.set_cons_succ, i64_w, i32_w]
    rfl
  refine one_ (i := 4) (N := some 19) #[true, true, true, true, true, true, true, true, true, false, true, true, true, true, false, false, false, false] rfl rfl (one_of HT_.out (by kernel_rfl)) (by decide) (fun K hK => ?_)
  refine goes_ Tryd.func29 (by kernel_rfl) rfl #[.string t226, .string t230] (by rfl) rfl rfl (by (try simp only [List.map_toArray, List.map_cons, List.map_nil]); first | done | rfl | (simp only [List.length_drop, List.length_take]; rfl)) ?_
  with_reducible refine (ver_number.calls k t226 t230 t233 _ A5.out).mono ?_
  rintro e w25 ⟨rfl, hb⟩
  refine ⟨_, rfl, ?_⟩
  have n0_ := Aside0.mk (blk_below (g := gb219) (o := .cells #[.string a0] 9 (0, 0)) (by (with_reducible repeat (first | refine blk_drewN ?_ _ | refine blk_drew ?_ | refine blk_alloc ?_ _)); exact BK219.out) hb)
  have n1_ := Aside0.mk (blk_below (g := gb220) (o := .cells #[.string a1] 9 (0, 0)) (by (with_reducible repeat (first | refine blk_drewN ?_ _ | refine blk_drew ?_ | refine blk_alloc ?_ _)); exact BK220.out) hb)
  have n2_ := Aside0.mk (blk_below (g := gb221) (o := .cells #[.string t226, .string t227, .string t228] 44 (0, 0)) (by (with_reducible repeat (first | refine blk_drewN ?_ _ | refine blk_drew ?_ | refine blk_alloc ?_ _)); exact BK221.out) hb)
  have n3_ := Aside0.mk (blk_below (g := gb222) (o := .cells #[.string t230, .string t231, .string t232] 44 (0, 0)) (by (with_reducible repeat (first | refine blk_drewN ?_ _ | refine blk_drew ?_ | refine blk_alloc ?_ _)); exact BK222.out) hb)
  have n4_ := Aside0.mk (blk_below (g := gb223) (o := .cells #[.int .i64 t225] 23 (0, 0)) (by (with_reducible repeat (first | refine blk_drewN ?_ _ | refine blk_drew ?_ | refine blk_alloc ?_ _)); exact BK223.out) hb)
  have n5_ := Aside0.mk (blk_below (g := gb224) (o := .cells #[.int .i64 t229] 23 (0, 0)) (by (with_reducible repeat (first | refine blk_drewN ?_ _ | refine blk_drew ?_ | refine blk_alloc ?_ _)); exact BK224.out) hb)
  have n6_ := Aside0.mk (below_step (by repeat (first | (with_reducible first | exact HB.out | apply below_alloc | apply pw_below_drewN | apply below_drew1 | refine below_set ?_ GE219.out | refine below_set ?_ GE220.out | refine below_set ?_ GE221.out | refine below_set ?_ GE222.out | refine below_set ?_ GE223.out | refine below_set ?_ GE224.out) | exact HB.out)) hb)
  clear BK219
  clear BK220
  clear BK221
  clear BK222
  clear BK223
  clear BK224
  clear HB
  have BK219 := n0_
  have BK220 := n1_
  have BK221 := n2_
  have BK222 := n3_
  have BK223 := n4_
  have BK224 := n5_
  have HB := n6_
  clear n0_ n1_ n2_ n3_ n4_ n5_ n6_
  (try clear hb)
  (try clear hb2)
  (try clear hk)
  (try clear hi)
  refine hK.out _ _ ⟨(blk_cell BK221.out 0).trans rfl, (blk_cell BK221.out 1).trans rfl, (blk_cell BK221.out 2).trans rfl, (blk_cell BK222.out 0).trans rfl, (blk_cell BK222.out 1).trans rfl, (blk_cell BK222.out 2).trans rfl⟩ (fun hHeld => ?_)
  clear hK K
  refine norm_ (a' := ?_) ?_ ?_
  rotate_left
  · show Act.put _ (some 19) _ = _
    simp only [Act.put, List.setIfInBounds_toArray, List.set_cons_zero, List.set_cons_succ, i64_w, i32_w]
    rfl
  refine one_ (i := 9) (N := some 24) #[true, true, true, true, true, true, true, true, true, true, true, true, true, true, false, false, false, false] rfl rfl (one_of HT_.out (by kernel_rfl)) (by decide) (fun K hK => ?_)
  refine goes_ Tryd.func30 (by kernel_rfl) rfl #[.string t227, .string t231] (by rfl) rfl rfl (by (try simp only [List.map_toArray, List.map_cons, List.map_nil]); first | done | rfl | (simp only [List.length_drop, List.length_take]; rfl)) ?_
  with_reducible refine (ver_order.calls k t227 t231 t234 _ A6.out).mono ?_
  rintro e w26 ⟨rfl, hb⟩
  refine ⟨_, rfl, ?_⟩
  have n0_ := Aside0.mk (blk_below (g := gb219) (o := .cells #[.string a0] 9 (0, 0)) (by (with_reducible repeat (first | refine blk_drewN ?_ _ | refine blk_drew ?_ | refine blk_alloc ?_ _)); exact BK219.out) hb)
  have n1_ := Aside0.mk (blk_below (g := gb220) (o := .cells #[.string a1] 9 (0, 0)) (by (with_reducible repeat (first | refine blk_drewN ?_ _ | refine blk_drew ?_ | refine blk_alloc ?_ _)); exact BK220.out) hb)
  have n2_ := Aside0.mk (blk_below (g := gb221) (o := .cells #[.string t226, .string t227, .string t228] 44 (0, 0)) (by (with_reducible repeat (first | refine blk_drewN ?_ _ | refine blk_drew ?_ | refine blk_alloc ?_ _)); exact BK221.out) hb)
  have n3_ := Aside0.mk (blk_below (g := gb222) (o := .cells #[.string t230, .string t231, .string t232] 44 (0, 0)) (by (with_reducible repeat (first | refine blk_drewN ?_ _ | refine blk_drew ?_ | refine blk_alloc ?_ _)); exact BK222.out) hb)
  have n4_ := Aside0.mk (blk_below (g := gb223) (o := .cells #[.int .i64 t225] 23 (0, 0)) (by (with_reducible repeat (first | refine blk_drewN ?_ _ | refine blk_drew ?_ | refine blk_alloc ?_ _)); exact BK223.out) hb)
  have n5_ := Aside0.mk (blk_below (g := gb224) (o := .cells #[.int .i64 t229] 23 (0, 0)) (by (with_reducible repeat (first | refine blk_drewN ?_ _ | refine blk_drew ?_ | refine blk_alloc ?_ _)); exact BK224.out) hb)
  have n6_ := Aside0.mk (below_step (by repeat (first | (with_reducible first | exact HB.out | apply below_alloc | apply pw_below_drewN | apply below_drew1 | refine below_set ?_ GE219.out | refine below_set ?_ GE220.out | refine below_set ?_ GE221.out | refine below_set ?_ GE222.out | refine below_set ?_ GE223.out | refine below_set ?_ GE224.out) | exact HB.out)) hb)
  clear BK219
  clear BK220
  clear BK221
  clear BK222
  clear BK223
  clear BK224
  clear HB
  have BK219 := n0_
  have BK220 := n1_
  have BK221 := n2_
  have BK222 := n3_
  have BK223 := n4_
  have BK224 := n5_
  have HB := n6_
  clear n0_ n1_ n2_ n3_ n4_ n5_ n6_
  (try clear hb)
  (try clear hb2)
  (try clear hk)
  (try clear hi)
  refine hK.out _ _ ⟨(blk_cell BK221.out 0).trans rfl, (blk_cell BK221.out 1).trans rfl, (blk_cell BK221.out 2).trans rfl, (blk_cell BK222.out 0).trans rfl, (blk_cell BK222.out 1).trans rfl, (blk_cell BK222.out 2).trans rfl⟩ (fun hHeld => ?_)
  clear hK K
  refine norm_ (a' := ?_) ?_ ?_
  rotate_left
  · show Act.put _ (some 24) _ = _
    simp only [Act.put, List.setIfInBounds_toArray, List.set_cons_zero, List.set_cons_succ, i64_w, i32_w]
    rfl
  refine one_ (i := 14) (N := some 29) #[true, true, true, true, true, true, true, true, true, true, true, true, true, true, true, false, false, false] rfl rfl (one_of HT_.out (by kernel_rfl)) (by decide) (fun K hK => ?_)
  refine goes_ Tryd.func30 (by kernel_rfl) rfl #[.string t228, .string t232] (by rfl) rfl rfl (by (try simp only [List.map_toArray, List.map_cons, List.map_nil]); first | done | rfl | (simp only [List.length_drop, List.length_take]; rfl)) ?_
  with_reducible refine (ver_order.calls k t228 t232 t235 _ A7.out).mono ?_
  rintro e w27 ⟨rfl, hb⟩
  refine ⟨_, rfl, ?_⟩
  have n0_ := Aside0.mk (blk_below (g := gb219) (o := .cells #[.string a0] 9 (0, 0)) (by (with_reducible repeat (first | refine blk_drewN ?_ _ | refine blk_drew ?_ | refine blk_alloc ?_ _)); exact BK219.out) hb)
  have n1_ := Aside0.mk (blk_below (g := gb220) (o := .cells #[.string a1] 9 (0, 0)) (by (with_reducible repeat (first | refine blk_drewN ?_ _ | refine blk_drew ?_ | refine blk_alloc ?_ _)); exact BK220.out) hb)
  have n2_ := Aside0.mk (blk_below (g := gb221) (o := .cells #[.string t226, .string t227, .string t228] 44 (0, 0)) (by (with_reducible repeat (first | refine blk_drewN ?_ _ | refine blk_drew ?_ | refine blk_alloc ?_ _)); exact BK221.out) hb)
  have n3_ := Aside0.mk (blk_below (g := gb222) (o := .cells #[.string t230, .string t231, .string t232] 44 (0, 0)) (by (with_reducible repeat (first | refine blk_drewN ?_ _ | refine blk_drew ?_ | refine blk_alloc ?_ _)); exact BK222.out) hb)
  have n4_ := Aside0.mk (blk_below (g := gb223) (o := .cells #[.int .i64 t225] 23 (0, 0)) (by (with_reducible repeat (first | refine blk_drewN ?_ _ | refine blk_drew ?_ | refine blk_alloc ?_ _)); exact BK223.out) hb)
  have n5_ := Aside0.mk (blk_below (g := gb224) (o := .cells #[.int .i64 t229] 23 (0, 0)) (by (with_reducible repeat (first | refine blk_drewN ?_ _ | refine blk_drew ?_ | refine blk_alloc ?_ _)); exact BK224.out) hb)
  have n6_ := Aside0.mk (below_step (by repeat (first | (with_reducible first | exact HB.out | apply below_alloc | apply pw_below_drewN | apply below_drew1 | refine below_set ?_ GE219.out | refine below_set ?_ GE220.out | refine below_set ?_ GE221.out | refine below_set ?_ GE222.out | refine below_set ?_ GE223.out | refine below_set ?_ GE224.out) | exact HB.out)) hb)
  clear BK219
  clear BK220
  clear BK221
  clear BK222
  clear BK223
  clear BK224
  clear HB
  have BK219 := n0_
  have BK220 := n1_
  have BK221 := n2_
  have BK222 := n3_
  have BK223 := n4_
  have BK224 := n5_
  have HB := n6_
  clear n0_ n1_ n2_ n3_ n4_ n5_ n6_
  (try clear hb)
  (try clear hb2)
  (try clear hk)
  (try clear hi)
  refine hK.out _ _ ⟨(blk_cell BK221.out 0).trans rfl, (blk_cell BK221.out 1).trans rfl, (blk_cell BK221.out 2).trans rfl, (blk_cell BK222.out 0).trans rfl, (blk_cell BK222.out 1).trans rfl, (blk_cell BK222.out 2).trans rfl⟩ (fun hHeld => ?_)
  clear hK K
  refine norm_ (a' := ?_) ?_ ?_
  rotate_left
  · show Act.put _ (some 29) _ = _
    simp only [Act.put, List.setIfInBounds_toArray, List.set_cons_zero, List.set_cons_succ, i64_w, i32_w]
    rfl
  refine one_ (i := 15) (N := some 30) #[true, true, true, true, true, true, true, true, true, true, true, true, true, true, true, true, false, false] rfl rfl (one_of HT_.out (by kernel_rfl)) (by decide) (fun K hK => ?_)
  refine Kd.R_lit_step (Kd.int .i64) _ 3 ?hg (N := 30) ?hd (xs := ([t233, t234, t235] : List Int)) (inner := [.int .i64 t233, .int .i64 t234, .int .i64 t235]) (ok := fun _ => True) (okp := fun _ => True) ?hr ?hp (fun _ hk => hk) trivial (Below.refl _ _) (Nat.le_refl _) (by simp) ?_; (case hd => rfl); (case hg => rfl); (case hr => first | (go_simp; done) | (go_simp; rfl)); (case hp => exact (Reps.one (show Kd.M (Kd.int .i64) _ _ _ t233 [.int .i64 t233] from rfl) (Reps.one (show Kd.M (Kd.int .i64) _ _ _ t234 [.int .i64 t234] from rfl) (Reps.one (show Kd.M (Kd.int .i64) _ _ _ t235 [.int .i64 t235] from rfl) (Reps.none _ _)))))
  intro v237 w28 ho29 hb hg_ hnew_
  clear hg_ hnew_
  (first | rw [← Ny236.out] at ho29 | (simp only [Int.reduceToNat] at ho29; rw [← Ny236.out] at ho29))
  have n0_ := Aside0.mk (Kd.R_lower ho29 (below_size (by repeat (first | (with_reducible first | exact HB.out | apply below_alloc | apply pw_below_drewN | apply below_drew1 | refine below_set ?_ GE219.out | refine below_set ?_ GE220.out | refine below_set ?_ GE221.out | refine below_set ?_ GE222.out | refine below_set ?_ GE223.out | refine below_set ?_ GE224.out) | exact HB.out))))
  have n1_ := Aside0.mk (blk_below (g := gb219) (o := .cells #[.string a0] 9 (0, 0)) (by (with_reducible repeat (first | refine blk_drewN ?_ _ | refine blk_drew ?_ | refine blk_alloc ?_ _)); exact BK219.out) hb)
  have n2_ := Aside0.mk (blk_below (g := gb220) (o := .cells #[.string a1] 9 (0, 0)) (by (with_reducible repeat (first | refine blk_drewN ?_ _ | refine blk_drew ?_ | refine blk_alloc ?_ _)); exact BK220.out) hb)
  have n3_ := Aside0.mk (blk_below (g := gb221) (o := .cells #[.string t226, .string t227, .string t228] 44 (0, 0)) (by (with_reducible repeat (first | refine blk_drewN ?_ _ | refine blk_drew ?_ | refine blk_alloc ?_ _)); exact BK221.out) hb)
  have n4_ := Aside0.mk (blk_below (g := gb222) (o := .cells #[.string t230, .string t231, .string t232] 44 (0, 0)) (by (with_reducible repeat (first | refine blk_drewN ?_ _ | refine blk_drew ?_ | refine blk_alloc ?_ _)); exact BK222.out) hb)
  have n5_ := Aside0.mk (blk_below (g := gb223) (o := .cells #[.int .i64 t225] 23 (0, 0)) (by (with_reducible repeat (first | refine blk_drewN ?_ _ | refine blk_drew ?_ | refine blk_alloc ?_ _)); exact BK223.out) hb)
  have n6_ := Aside0.mk (blk_below (g := gb224) (o := .cells #[.int .i64 t229] 23 (0, 0)) (by (with_reducible repeat (first | refine blk_drewN ?_ _ | refine blk_drew ?_ | refine blk_alloc ?_ _)); exact BK224.out) hb)
  have n7_ := Aside0.mk (below_step (by repeat (first | (with_reducible first | exact HB.out | apply below_alloc | apply pw_below_drewN | apply below_drew1 | refine below_set ?_ GE219.out | refine below_set ?_ GE220.out | refine below_set ?_ GE221.out | refine below_set ?_ GE222.out | refine below_set ?_ GE223.out | refine below_set ?_ GE224.out) | exact HB.out)) hb)
  clear BK219
  clear BK220
  clear BK221
  clear BK222
  clear BK223
  clear BK224
  clear HB
  have HO238 := n0_
  have BK219 := n1_
  have BK220 := n2_
  have BK221 := n3_
  have BK222 := n4_
  have BK223 := n5_
  have BK224 := n6_
  have HB := n7_
  clear n0_ n1_ n2_ n3_ n4_ n5_ n6_ n7_
  clear hb ho29
  obtain ⟨Ao30, co30, eo30⟩ := Kd.R_slice HO238.out
  (first | subst eo30 | (injection eo30 with f1_ f2_ f3_; have f4_ := f1_.symm; have f5_ := f3_.symm; clear f1_ f2_ f3_; subst f4_; subst f5_))
  refine hK.out _ _ ⟨(blk_cell BK221.out 0).trans rfl, (blk_cell BK221.out 1).trans rfl, (blk_cell BK221.out 2).trans rfl, (blk_cell BK222.out 0).trans rfl, (blk_cell BK222.out 1).trans rfl, (blk_cell BK222.out 2).trans rfl⟩ (fun hHeld => ?_)
  clear hK K
  refine norm_ (a' := ?_) ?_ ?_
  rotate_left
  · show Act.put _ (some 30) _ = _
    simp only [Act.put, List.setIfInBounds_toArray, List.set_cons_zero, List.set_cons_succ, i64_w, i32_w]
    rfl
  refine one_ (i := 16) (N := some 31) #[true, true, true, true, true, true, true, true, true, true, true, true, true, true, true, true, true, false] rfl rfl (one_of HT_.out (by kernel_rfl)) (by decide) (fun K hK => ?_)
  refine goes_ Tryd.func28 (by kernel_rfl) rfl #[.slice Ao30 y236.length co30] (by rfl) rfl rfl (by (try simp only [List.map_toArray, List.map_cons, List.map_nil]); first | done | rfl | (simp only [List.length_drop, List.length_take]; rfl)) ?_
  with_reducible refine (cmp_Or_int.calls k _ _ y236 t239 _ ?side1 ?side2 A8.out).mono ?_
  (case side1 => repeat (first | exact (Kd.R_reads' HO238.out).2.2 | (with_reducible refine Kd.C_alloc ?_ _) | (with_reducible refine Kd.C_drewN ?_ _) | (with_reducible refine Kd.C_drew ?_)))
  (case side2 => exact (Kd.R_reads' HO238.out).2.1)
  rintro e w' ⟨rfl, ⟨nd, rfl⟩⟩
  refine ⟨_, rfl, ?_⟩
  refine hK.out _ _ ⟨(blk_cell BK221.out 0).trans rfl, (blk_cell BK221.out 1).trans rfl, (blk_cell BK221.out 2).trans rfl, (blk_cell BK222.out 0).trans rfl, (blk_cell BK222.out 1).trans rfl, (blk_cell BK222.out 2).trans rfl⟩ (fun hHeld => ?_)
  clear hK K
  refine norm_ (a' := ?_) ?_ ?_
  rotate_left
  · show Act.put _ (some 31) _ = _
    simp only [Act.put, List.setIfInBounds_toArray, List.set_cons_zero, List.set_cons_succ, i64_w, i32_w]
    rfl
  refine pure_ (i := 17) (N := some 4) (v := ?_) (a' := ?_) #[true, true, true, true, true, true, true, true, true, true, true, true, true, true, true, true, true, true] rfl rfl (any_of HT_.out (by kernel_rfl)) (fun _ _ _ h => h) (Or.inl ⟨by rfl, ?_⟩) ?_ ?_
  rotate_left
  · intro w'
    go_simp
    with_reducible rfl
  rotate_left
  · simp only [Act.put, List.setIfInBounds_toArray, List.set_cons_zero, List.set_cons_succ, i64_w, i32_w]
    rfl
  refine done_ (done_of HT_.out (by kernel_rfl)) ?_
  try go_wp2
  go_ret
  exact ⟨by first | rfl | (simp [errW_none, errW_some] <;> rfl) | (simp [*, errW_none, errW_some] <;> rfl), by repeat (first | (with_reducible first | exact HB.out | apply below_alloc | apply pw_below_drewN | apply below_drew1 | refine below_set ?_ GE219.out | refine below_set ?_ GE220.out | refine below_set ?_ GE221.out | refine below_set ?_ GE222.out | refine below_set ?_ GE223.out | refine below_set ?_ GE224.out) | exact HB.out)⟩
end Go.Proofs.YtpijehmhgjkkoaaDoor.Q
