/- Printed by a program of this repo, over the kit's print, for this claim; hand-made contracts stand among it. Plain theorems, Lean checks them. -/
import Derived.Test.YtmgeokfknehonaaDoorAStanzaLines1
namespace Go.Proofs.YtmgeokfknehonaaDoor.Q
open Go.RowKit Go.Proofs.YtmgeokfknehonaaDoorW.PrintWords Go.Proofs.YtmgeokfknehonaaDoorW.PrintLast Go.Proofs.YtmgeokfknehonaaDoorW.PrintMore
attribute [local go_sem] max2_int min2_int max_two min_two max_three min_three max_four min_four   -- for this text's walks alone
set_option linter.unusedVariables false
set_option linter.unusedSimpArgs false
/-! ### stanza_Order: function 12 -/
def stanza_Order.l0 : Nat → List ByteArray → Int → List (S43) → Int → Int → Option (Int × Int)
  | 0, _, _, _, _, _ => none
  | k + 1, x1, x6, x10, x11, x12 => if x12 < x11 then (if 0 ≤ x12 then (if x12 < (x10.length : Int) then ((slices_Index_string_string.f k x1 ((rd_T43 x10 x12).f0)).bind fun t200 => (if t200 < 0 then (some (x12, 10)) else (if t200 ≤ x6 then (some (x12, 7)) else (stanza_Order.l0 k x1 t200 x10 x11 (wrap64 (x12 + 1)))))) else (none)) else (none)) else (some (0, 0))
def stanza_Order.f (k : Nat) (l0 : List (S43)) (l1 : List ByteArray) : Option (Int × Int) := stanza_Order.l0 k l1 (-1) l0 (l0.length : Int) 0
theorem stanza_Order.mono_l : ∀ k, (∀ y0 y1 y2 y3 y4, LeO (stanza_Order.l0 k y0 y1 y2 y3 y4) (stanza_Order.l0 (k + 1) y0 y1 y2 y3 y4))
  | 0 => fun _ _ _ _ _ r h => by simp [stanza_Order.l0] at h
  | k + 1 => by
    have ih0 := stanza_Order.mono_l k
    · intro y0 y1 y2 y3 y4
      unfold stanza_Order.l0
      repeat' first
      | (with_reducible exact ih0 _ _ _ _ _)
      | (with_reducible exact slices_Index_string_string.mono _ _ _)
      | (with_reducible exact LeO.refl _)
      | (with_reducible exact LeO.none _)
      | (with_reducible refine LeO.ite ?_ ?_)
      | (with_reducible refine LeO.bind ?_ (fun _ => ?_))
      | exact ih0 _ _ _ _ _
      | exact slices_Index_string_string.mono _ _ _
      | exact LeO.none _
      | refine LeO.ite ?_ ?_
      | refine LeO.bind ?_ (fun _ => ?_)
theorem stanza_Order.mono : ∀ a0 a1 k, LeO (stanza_Order.f k a0 a1) (stanza_Order.f (k + 1) a0 a1) := by
  intro a0 a1 k
  have ih0 := stanza_Order.mono_l k
  unfold stanza_Order.f
  repeat' first
      | (with_reducible exact ih0 _ _ _ _ _)
      | (with_reducible exact slices_Index_string_string.mono _ _ _)
      | (with_reducible exact LeO.refl _)
      | (with_reducible exact LeO.none _)
      | (with_reducible refine LeO.ite ?_ ?_)
      | (with_reducible refine LeO.bind ?_ (fun _ => ?_))
      | exact ih0 _ _ _ _ _
      | exact slices_Index_string_string.mono _ _ _
      | exact LeO.none _
      | refine LeO.ite ?_ ?_
      | refine LeO.bind ?_ (fun _ => ?_)
set_option maxHeartbeats 8000000 in
set_option maxRecDepth 100000 in
theorem stanza_Order.calls (k : Nat) (A0 : Option Addr) (c0 : Nat) (l0 : List (S43)) (A1 : Option Addr) (c1 : Nat) (l1 : List ByteArray) (r1 : Int) (r2 : Int) (w : World) (hr0 : Kd.C k43 w A0 l0.length l0) (hc0 : l0.length ≤ c0) (hr1 : Kd.C Kd.string w A1 l1.length l1) (hc1 : l1.length ≤ c1) (h : stanza_Order.f k l0 l1 = some (r1, r2)) :
    Calls Tryd.prog 12 #[.slice A0 l0.length c0, .slice A1 l1.length c1] w fun e w' => e = .returned (.tuple #[.int .i64 r1, .int .i64 r2]) ∧ Below w.heap.size w w' := by
  have hu43 := Tryd.underlying43
  have HR0 := Aside0.mk hr0
  have HC0 := Aside0.mk hc0
  clear hr0 hc0
  have HR1 := Aside0.mk hr1
  have HC1 := Aside0.mk hc1
  clear hr1 hc1
  have HB := Aside0.mk (Below.refl w.heap.size w)
  have H : (stanza_Order.l0 k l1 (-1) l0 (l0.length : Int) 0) = some (r1, r2) := h
  clear h
  have H' := Aside0.mk H
  clear H
  go_enter Tryd.func12, Tryd.ntmps12
  go_wp2
  go_loopg [6, 12] k (fun kq v6 v12 w' => ∃ (x6_1 : Int) (x12_1 : Int), v6 = .int .i64 x6_1 ∧ v12 = .int .i64 x12_1 ∧ Aside0 (stanza_Order.l0 kq l1 x6_1 l0 (l0.length : Int) x12_1 = some (r1, r2)) ∧ Aside0 (kq ≤ k) ∧ Aside0 (Below w.heap.size w w'))
  case atStart => exact ⟨((-1)), (0), (by first | rfl | (simp; done) | (simp [*]; done)), (by first | rfl | (simp; done) | (simp [*]; done)), H', ⟨Nat.le_refl _⟩, ⟨by repeat (first | (with_reducible first | exact HB.out | apply below_alloc | apply pw_below_drewN | apply below_drew1) | exact HB.out)⟩⟩
  case round =>
    clear H'
    try clear c1
    try clear p2
    obtain ⟨x6_1, x12_1, rfl, rfl, HA, HK1, HB⟩ := hrel
    cases gk with
    | zero => exact absurd HA.out (by simp [stanza_Order.l0])
    | succ k1 =>
      have H := HA.out
      clear HA
      simp only [stanza_Order.l0] at H
      by_cases c3 : x12_1 < (l0.length : Int)
      · rw [if_pos c3] at H
        have c3b0 : decide (x12_1 < (l0.length : Int)) = true := decide_eq_true c3
        clear c3
        by_cases c4 : 0 ≤ x12_1
        · rw [if_pos c4] at H
          have c4b0 : decide (0 ≤ x12_1) = true := decide_eq_true c4
          clear c4
          by_cases c5 : x12_1 < (l0.length : Int)
          · rw [if_pos c5] at H
            have c5b0 : decide (x12_1 < (l0.length : Int)) = true := decide_eq_true c5
            clear c5
            replace H := Option.bind_eq_some_iff.mp H
            obtain ⟨t200, A60, H⟩ := H
            replace H : (if t200 < 0 then (some (x12_1, 10)) else (if t200 ≤ x6_1 then (some (x12_1, 7)) else (stanza_Order.l0 k1 l1 t200 l0 (l0.length : Int) (wrap64 (x12_1 + 1))))) = some (r1, r2) := H
            have A6 := Aside0.mk A60
            clear A60
            by_cases c7 : t200 < 0
            · rw [if_pos c7] at H
              have c7b0 : decide (t200 < 0) = true := decide_eq_true c7
              clear c7
              simp only [Option.some.injEq, Prod.mk.injEq] at H
              obtain ⟨rfl, rfl⟩ := H
              have p198 : 0 ≤ (x12_1 : Int) := of_decide_eq_true (by first | (with_reducible assumption) | assumption)
              have q198 : x12_1 < (l0.length : Int) := of_decide_eq_true (by first | (with_reducible assumption) | assumption)
              obtain ⟨ad198, e198, hx198_0, hx198_1, hx198_2⟩ := at_T43 HR0.out x12_1 p198 q198
              cases e198
              replace hx198_0 := (HB.out.cell (World.block_lt_of_cell? w _ hx198_0)).trans hx198_0
              replace hx198_1 := (HB.out.cell (World.block_lt_of_cell? w _ hx198_1)).trans hx198_1
              replace hx198_2 := (HB.out.cell (World.block_lt_of_cell? w _ hx198_2)).trans hx198_2
              replace p198 := eq_true p198
              replace q198 := eq_true q198
              go_wp2_with (first | ((with_reducible refine gate_dst (N := 8) rfl ?_); refine box_event ?hg (N := 8) ?hd (cs := #[.string (⟨#[]⟩ : ByteArray), .string (⟨#[]⟩ : ByteArray), .int .i64 0]) (t := 43) ?hr ?_; (case hd => rfl); (case hg => rfl); (case hr => first | (go_simp; done) | (go_simp; rfl)); intro gb199 hg w8 hbox hb; have n0_ := Aside0.mk (below_step (by repeat (first | (with_reducible first | exact HB.out | apply below_alloc | apply pw_below_drewN | apply below_drew1) | exact HB.out)) hb); have n1_ := Aside0.mk (hbox); have n2_ := Aside0.mk ((by rw [hg]; exact (below_size (by repeat (first | (with_reducible first | exact HB.out | apply below_alloc | apply pw_below_drewN | apply below_drew1) | exact HB.out))) : w.heap.size ≤ gb199)); have n3_ := Aside0.mk ((by rw [hg]; exact (below_size (by repeat (first | (with_reducible first | exact HB.out | apply below_alloc | apply pw_below_drewN | apply below_drew1) | exact HB.out))) : w.heap.size ≤ gb199)); clear HB; have HB := n0_; have BK199 := n1_; have GW199 := n2_; have GE199 := n3_; clear n0_ n1_ n2_ n3_; clear hb hbox hg; have hcz9_0 : w8.cell? ⟨gb199, 0, none⟩ = some (.string (⟨#[]⟩ : ByteArray)) := (blk_cell BK199.out 0).trans rfl; have hcz9_1 : w8.cell? ⟨gb199, 1, none⟩ = some (.string (⟨#[]⟩ : ByteArray)) := (blk_cell BK199.out 1).trans rfl; have hcz9_2 : w8.cell? ⟨gb199, 2, none⟩ = some (.int .i64 0) := (blk_cell BK199.out 2).trans rfl; have hfz9_0 := blk_frozen BK199.out 0; have hfz9_1 := blk_frozen BK199.out 1; have hfz9_2 := blk_frozen BK199.out 2) | ((with_reducible refine gate_callee (f := 31) rfl ?_); refine goesL_ (some 20) rfl rfl Tryd.func31 (by kernel_rfl) rfl #[.slice A1 l1.length c1, .string ((rd_T43 l0 x12_1).f0)] rfl (by (try simp only [List.map_toArray, List.map_cons, List.map_nil]); first | done | rfl | (simp only [List.length_drop, List.length_take]; rfl)) ?_; (with_reducible refine (slices_Index_string_string.calls k1 _ _ l1 ((rd_T43 l0 x12_1).f0) t200 _ ?side1 ?side2 A6.out).mono ?_); (case side1 => exact Kd.C_below HR1.out (by repeat (first | (with_reducible first | exact HB.out | apply below_alloc | apply pw_below_drewN | apply below_drew1 | refine below_set ?_ GE199.out) | exact HB.out))); (case side2 => exact HC1.out); rintro e w' ⟨rfl, ⟨nd, rfl⟩⟩; refine ⟨_, rfl, ?_⟩))
              go_ret2
              exact ⟨by first | rfl | (simp [errW_none, errW_some] <;> rfl) | (simp [*, errW_none, errW_some] <;> rfl), by repeat (first | (with_reducible first | exact HB.out | apply below_alloc | apply pw_below_drewN | apply below_drew1 | refine below_set ?_ GE199.out) | exact HB.out)⟩
            · rw [if_neg c7] at H
              have c7b0 : decide (t200 < 0) = false := decide_eq_false c7
              clear c7
              by_cases c10 : t200 ≤ x6_1
              · rw [if_pos c10] at H
                have c10b0 : decide (t200 ≤ x6_1) = true := decide_eq_true c10
                clear c10
                simp only [Option.some.injEq, Prod.mk.injEq] at H
                obtain ⟨rfl, rfl⟩ := H
                have p198 : 0 ≤ (x12_1 : Int) := of_decide_eq_true (by first | (with_reducible assumption) | assumption)
                have q198 : x12_1 < (l0.length : Int) := of_decide_eq_true (by first | (with_reducible assumption) | assumption)
                obtain ⟨ad198, e198, hx198_0, hx198_1, hx198_2⟩ := at_T43 HR0.out x12_1 p198 q198
                cases e198
                replace hx198_0 := (HB.out.cell (World.block_lt_of_cell? w _ hx198_0)).trans hx198_0
                replace hx198_1 := (HB.out.cell (World.block_lt_of_cell? w _ hx198_1)).trans hx198_1
                replace hx198_2 := (HB.out.cell (World.block_lt_of_cell? w _ hx198_2)).trans hx198_2
                replace p198 := eq_true p198
                replace q198 := eq_true q198
                go_wp2_with (first | ((with_reducible refine gate_dst (N := 8) rfl ?_); refine box_event ?hg (N := 8) ?hd (cs := #[.string (⟨#[]⟩ : ByteArray), .string (⟨#[]⟩ : ByteArray), .int .i64 0]) (t := 43) ?hr ?_; (case hd => rfl); (case hg => rfl); (case hr => first | (go_simp; done) | (go_simp; rfl)); intro gb199 hg w11 hbox hb; have n0_ := Aside0.mk (below_step (by repeat (first | (with_reducible first | exact HB.out | apply below_alloc | apply pw_below_drewN | apply below_drew1) | exact HB.out)) hb); have n1_ := Aside0.mk (hbox); have n2_ := Aside0.mk ((by rw [hg]; exact (below_size (by repeat (first | (with_reducible first | exact HB.out | apply below_alloc | apply pw_below_drewN | apply below_drew1) | exact HB.out))) : w.heap.size ≤ gb199)); have n3_ := Aside0.mk ((by rw [hg]; exact (below_size (by repeat (first | (with_reducible first | exact HB.out | apply below_alloc | apply pw_below_drewN | apply below_drew1) | exact HB.out))) : w.heap.size ≤ gb199)); clear HB; have HB := n0_; have BK199 := n1_; have GW199 := n2_; have GE199 := n3_; clear n0_ n1_ n2_ n3_; clear hb hbox hg; have hcz12_0 : w11.cell? ⟨gb199, 0, none⟩ = some (.string (⟨#[]⟩ : ByteArray)) := (blk_cell BK199.out 0).trans rfl; have hcz12_1 : w11.cell? ⟨gb199, 1, none⟩ = some (.string (⟨#[]⟩ : ByteArray)) := (blk_cell BK199.out 1).trans rfl; have hcz12_2 : w11.cell? ⟨gb199, 2, none⟩ = some (.int .i64 0) := (blk_cell BK199.out 2).trans rfl; have hfz12_0 := blk_frozen BK199.out 0; have hfz12_1 := blk_frozen BK199.out 1; have hfz12_2 := blk_frozen BK199.out 2) | ((with_reducible refine gate_callee (f := 31) rfl ?_); refine goesL_ (some 20) rfl rfl Tryd.func31 (by kernel_rfl) rfl #[.slice A1 l1.length c1, .string ((rd_T43 l0 x12_1).f0)] rfl (by (try simp only [List.map_toArray, List.map_cons, List.map_nil]); first | done | rfl | (simp only [List.length_drop, List.length_take]; rfl)) ?_; (with_reducible refine (slices_Index_string_string.calls k1 _ _ l1 ((rd_T43 l0 x12_1).f0) t200 _ ?side1 ?side2 A6.out).mono ?_); (case side1 => exact Kd.C_below HR1.out (by repeat (first | (with_reducible first | exact HB.out | apply below_alloc | apply pw_below_drewN | apply below_drew1 | refine below_set ?_ GE199.out) | exact HB.out))); (case side2 => exact HC1.out); rintro e w' ⟨rfl, ⟨nd, rfl⟩⟩; refine ⟨_, rfl, ?_⟩))
                go_ret2
                exact ⟨by first | rfl | (simp [errW_none, errW_some] <;> rfl) | (simp [*, errW_none, errW_some] <;> rfl), by repeat (first | (with_reducible first | exact HB.out | apply below_alloc | apply pw_below_drewN | apply below_drew1 | refine below_set ?_ GE199.out) | exact HB.out)⟩
              · rw [if_neg c10] at H
                have c10b0 : decide (t200 ≤ x6_1) = false := decide_eq_false c10
                clear c10
                have H' := Aside0.mk H
                clear H
                have p198 : 0 ≤ (x12_1 : Int) := of_decide_eq_true (by first | (with_reducible assumption) | assumption)
                have q198 : x12_1 < (l0.length : Int) := of_decide_eq_true (by first | (with_reducible assumption) | assumption)
                obtain ⟨ad198, e198, hx198_0, hx198_1, hx198_2⟩ := at_T43 HR0.out x12_1 p198 q198
                cases e198
                replace hx198_0 := (HB.out.cell (World.block_lt_of_cell? w _ hx198_0)).trans hx198_0
                replace hx198_1 := (HB.out.cell (World.block_lt_of_cell? w _ hx198_1)).trans hx198_1
                replace hx198_2 := (HB.out.cell (World.block_lt_of_cell? w _ hx198_2)).trans hx198_2
                replace p198 := eq_true p198
                replace q198 := eq_true q198
                go_wp2_with (first | ((with_reducible refine gate_dst (N := 8) rfl ?_); refine box_event ?hg (N := 8) ?hd (cs := #[.string (⟨#[]⟩ : ByteArray), .string (⟨#[]⟩ : ByteArray), .int .i64 0]) (t := 43) ?hr ?_; (case hd => rfl); (case hg => rfl); (case hr => first | (go_simp; done) | (go_simp; rfl)); intro gb199 hg w13 hbox hb; have n0_ := Aside0.mk (below_step (by repeat (first | (with_reducible first | exact HB.out | apply below_alloc | apply pw_below_drewN | apply below_drew1) | exact HB.out)) hb); have n1_ := Aside0.mk (hbox); have n2_ := Aside0.mk ((by rw [hg]; exact (below_size (by repeat (first | (with_reducible first | exact HB.out | apply below_alloc | apply pw_below_drewN | apply below_drew1) | exact HB.out))) : w.heap.size ≤ gb199)); have n3_ := Aside0.mk ((by rw [hg]; exact (below_size (by repeat (first | (with_reducible first | exact HB.out | apply below_alloc | apply pw_below_drewN | apply below_drew1) | exact HB.out))) : w.heap.size ≤ gb199)); clear HB; have HB := n0_; have BK199 := n1_; have GW199 := n2_; have GE199 := n3_; clear n0_ n1_ n2_ n3_; clear hb hbox hg; have hcz14_0 : w13.cell? ⟨gb199, 0, none⟩ = some (.string (⟨#[]⟩ : ByteArray)) := (blk_cell BK199.out 0).trans rfl; have hcz14_1 : w13.cell? ⟨gb199, 1, none⟩ = some (.string (⟨#[]⟩ : ByteArray)) := (blk_cell BK199.out 1).trans rfl; have hcz14_2 : w13.cell? ⟨gb199, 2, none⟩ = some (.int .i64 0) := (blk_cell BK199.out 2).trans rfl; have hfz14_0 := blk_frozen BK199.out 0; have hfz14_1 := blk_frozen BK199.out 1; have hfz14_2 := blk_frozen BK199.out 2) | ((with_reducible refine gate_callee (f := 31) rfl ?_); refine goesL_ (some 20) rfl rfl Tryd.func31 (by kernel_rfl) rfl #[.slice A1 l1.length c1, .string ((rd_T43 l0 x12_1).f0)] rfl (by (try simp only [List.map_toArray, List.map_cons, List.map_nil]); first | done | rfl | (simp only [List.length_drop, List.length_take]; rfl)) ?_; (with_reducible refine (slices_Index_string_string.calls k1 _ _ l1 ((rd_T43 l0 x12_1).f0) t200 _ ?side1 ?side2 A6.out).mono ?_); (case side1 => exact Kd.C_below HR1.out (by repeat (first | (with_reducible first | exact HB.out | apply below_alloc | apply pw_below_drewN | apply below_drew1 | refine below_set ?_ GE199.out) | exact HB.out))); (case side2 => exact HC1.out); rintro e w' ⟨rfl, ⟨nd, rfl⟩⟩; refine ⟨_, rfl, ?_⟩))
                go_roundg k1
                case measure => have := HK1.out; omega
                case rel => exact ⟨(t200), (wrap64 (x12_1 + 1)), (by first | rfl | (simp; done) | (simp [*]; done)), (by first | rfl | (simp; done) | (simp [*]; done)), H', ⟨by have := HK1.out; omega⟩, ⟨by repeat (first | (with_reducible first | exact HB.out | apply below_alloc | apply pw_below_drewN | apply below_drew1 | refine below_set ?_ GE199.out) | exact HB.out)⟩⟩
          · rw [if_neg c5] at H
            exact absurd H (by simp)
        · rw [if_neg c4] at H
          exact absurd H (by simp)
      · rw [if_neg c3] at H
        have c3b0 : decide (x12_1 < (l0.length : Int)) = false := decide_eq_false c3
        clear c3
        simp only [Option.some.injEq, Prod.mk.injEq] at H
        obtain ⟨rfl, rfl⟩ := H
        go_wp2
        go_ret2
        exact ⟨by first | rfl | (simp [errW_none, errW_some] <;> rfl) | (simp [*, errW_none, errW_some] <;> rfl), by repeat (first | (with_reducible first | exact HB.out | apply below_alloc | apply pw_below_drewN | apply below_drew1) | exact HB.out)⟩
end Go.Proofs.YtmgeokfknehonaaDoor.Q
namespace Go.Proofs.YtmgeokfknehonaaDoor.Q
open Go.RowKit Go.Proofs.YtmgeokfknehonaaDoorW.PrintWords Go.Proofs.YtmgeokfknehonaaDoorW.PrintLast Go.Proofs.YtmgeokfknehonaaDoorW.PrintMore
attribute [local go_sem] max2_int min2_int max_two min_two max_three min_three max_four min_four   -- for this text's walks alone
set_option linter.unusedVariables false
set_option linter.unusedSimpArgs false
/-! ### manciplelaw5_known: function 7 -/
def manciplelaw5_known.j0 : Nat → List (List (S43)) → Int → Int → Int → Int → Int → Int → Int → Int → Int → Bool → Option (Bool)
  | 0, _, _, _, _, _, _, _, _, _, _, _ => none
  | k + 1, x1, x3, x5, x6, x8, x9, x11, x12, x14, x15, x58 => if x58 = true then (none) else (if 0 < (x1.length : Int) then ((stanza_Get.f (rd_L3 x1 0) (⟨#[66]⟩ : ByteArray)).bind fun bt228 => (if 1 < (x1.length : Int) then ((stanza_Get.f (rd_L3 x1 1) (⟨#[66]⟩ : ByteArray)).bind fun bt234 => ((stanza_Order.f k (rd_L3 x1 0) (([(⟨#[66]⟩ : ByteArray), (⟨#[65]⟩ : ByteArray)] : List ByteArray))).bind fun bt243 => ((stanza_Order.f k (rd_L3 x1 0) (([(⟨#[65]⟩ : ByteArray)] : List ByteArray))).bind fun bt249 => (if x3 = 0 then ((manciplelaw5_same.f k x1 (([(([(⟨(⟨#[65]⟩ : ByteArray), (⟨#[49]⟩ : ByteArray), 0⟩ : S46), (⟨(⟨#[66]⟩ : ByteArray), (⟨#[]⟩ : ByteArray), 1⟩ : S46)] : List (S46))), (([(⟨(⟨#[65]⟩ : ByteArray), (⟨#[120, 32, 121]⟩ : ByteArray), 3⟩ : S46)] : List (S46)))] : List (List (S46))))).bind fun t260 => (if t260 = true then ((stanza_Print.f x1).bind fun t261 => (if t261.toList = ([65, 58, 32, 49, 10, 66, 58, 32, 10, 10, 65, 58, 32, 120, 32, 121, 10] : List UInt8) then (if x6 = 6 then (if x5 = 1 then (if x9 = 2 then (if x8 = 0 then (if x12 = 2 then (if x11 = 1 then (if x15 = 2 then (if x14 = 1 then (if bt228.2.2.2 = true then (if bt228.2.2.1 = 1 then (if bt234.2.2.2 = true then (none) else (if bt243.2 = 7 then (if bt243.1 = 1 then (if bt249.2 = 10 then (some (bt249.1 == 1)) else (none)) else (none)) else (none))) else (none)) else (none)) else (none)) else (none)) else (none)) else (none)) else (none)) else (none)) else (none)) else (none)) else (none))) else (none))) else (none))))) else (none))) else (none))
def manciplelaw5_known.f (k : Nat)  : Option (Bool) := (stanza_Parse.f k (⟨#[65, 58, 32, 49, 10, 66, 58, 32, 10, 10, 65, 58, 32, 120, 32, 121, 10]⟩ : ByteArray)).bind fun bt201 => ((stanza_Parse.f k (⟨#[65, 58, 32, 49, 10, 65, 58, 32, 50, 10]⟩ : ByteArray)).bind fun bt206 => ((stanza_Parse.f k (⟨#[10, 65, 58, 32, 49, 10]⟩ : ByteArray)).bind fun bt211 => ((stanza_Parse.f k (⟨#[65, 58, 32, 49, 10, 10]⟩ : ByteArray)).bind fun bt216 => ((stanza_Parse.f k (⟨#[65, 58, 32, 49, 10, 66, 58, 50, 10]⟩ : ByteArray)).bind fun bt221 => (if (bt201.1.length : Int) = 2 then (if 0 < (bt201.1.length : Int) then (manciplelaw5_known.j0 k bt201.1 bt201.2.2 bt206.2.1 bt206.2.2 bt211.2.1 bt211.2.2 bt216.2.1 bt216.2.2 bt221.2.1 bt221.2.2 (((rd_L3 bt201.1 0).length : Int) != 2)) else (none)) else (manciplelaw5_known.j0 k bt201.1 bt201.2.2 bt206.2.1 bt206.2.2 bt211.2.1 bt211.2.2 bt216.2.1 bt216.2.2 bt221.2.1 bt221.2.2 true))))))
theorem manciplelaw5_known.mono_l : ∀ k, (∀ y0 y1 y2 y3 y4 y5 y6 y7 y8 y9 y10, LeO (manciplelaw5_known.j0 k y0 y1 y2 y3 y4 y5 y6 y7 y8 y9 y10) (manciplelaw5_known.j0 (k + 1) y0 y1 y2 y3 y4 y5 y6 y7 y8 y9 y10))
  | 0 => fun _ _ _ _ _ _ _ _ _ _ _ r h => by simp [manciplelaw5_known.j0] at h
  | k + 1 => by
    have ih0 := manciplelaw5_known.mono_l k
    · intro y0 y1 y2 y3 y4 y5 y6 y7 y8 y9 y10
      unfold manciplelaw5_known.j0
      repeat' first
      | (with_reducible exact ih0 _ _ _ _ _ _ _ _ _ _ _)
      | (with_reducible exact manciplelaw5_same.mono _ _ _)
      | (with_reducible exact stanza_Order.mono _ _ _)
      | (with_reducible exact stanza_Parse.mono _ _)
      | (with_reducible exact LeO.refl _)
      | (with_reducible exact LeO.none _)
      | (with_reducible refine LeO.ite ?_ ?_)
      | (with_reducible refine LeO.bind ?_ (fun _ => ?_))
      | exact ih0 _ _ _ _ _ _ _ _ _ _ _
      | exact manciplelaw5_same.mono _ _ _
      | exact stanza_Order.mono _ _ _
      | exact stanza_Parse.mono _ _
      | exact LeO.none _
      | refine LeO.ite ?_ ?_
      | refine LeO.bind ?_ (fun _ => ?_)
theorem manciplelaw5_known.mono : ∀ k, LeO (manciplelaw5_known.f k ) (manciplelaw5_known.f (k + 1) ) := by
  intro  k
  have ih0 := manciplelaw5_known.mono_l k
  unfold manciplelaw5_known.f
  repeat' first
      | (with_reducible exact ih0 _ _ _ _ _ _ _ _ _ _ _)
      | (with_reducible exact manciplelaw5_same.mono _ _ _)
      | (with_reducible exact stanza_Order.mono _ _ _)
      | (with_reducible exact stanza_Parse.mono _ _)
      | (with_reducible exact LeO.refl _)
      | (with_reducible exact LeO.none _)
      | (with_reducible refine LeO.ite ?_ ?_)
      | (with_reducible refine LeO.bind ?_ (fun _ => ?_))
      | exact ih0 _ _ _ _ _ _ _ _ _ _ _
      | exact manciplelaw5_same.mono _ _ _
      | exact stanza_Order.mono _ _ _
      | exact stanza_Parse.mono _ _
      | exact LeO.none _
      | refine LeO.ite ?_ ?_
      | refine LeO.bind ?_ (fun _ => ?_)
set_option maxHeartbeats 8000000 in
set_option maxRecDepth 100000 in
theorem manciplelaw5_known.calls (k : Nat)  (r : Bool) (w : World) (hG : Glob w) (h : manciplelaw5_known.f k  = some r) :
    Calls Tryd.prog 7 #[] w fun e w' => e = .returned (.bool r) ∧ Below w.heap.size w w' := by
  have hu43 := Tryd.underlying43
  have hu46 := Tryd.underlying46
  have HB := Aside0.mk (Below.refl w.heap.size w)
  have HG := Aside0.mk hG
  clear hG
  have H : ((stanza_Parse.f k (⟨#[65, 58, 32, 49, 10, 66, 58, 32, 10, 10, 65, 58, 32, 120, 32, 121, 10]⟩ : ByteArray)).bind fun bt201 => ((stanza_Parse.f k (⟨#[65, 58, 32, 49, 10, 65, 58, 32, 50, 10]⟩ : ByteArray)).bind fun bt206 => ((stanza_Parse.f k (⟨#[10, 65, 58, 32, 49, 10]⟩ : ByteArray)).bind fun bt211 => ((stanza_Parse.f k (⟨#[65, 58, 32, 49, 10, 10]⟩ : ByteArray)).bind fun bt216 => ((stanza_Parse.f k (⟨#[65, 58, 32, 49, 10, 66, 58, 50, 10]⟩ : ByteArray)).bind fun bt221 => (if (bt201.1.length : Int) = 2 then (if 0 < (bt201.1.length : Int) then (manciplelaw5_known.j0 k bt201.1 bt201.2.2 bt206.2.1 bt206.2.2 bt211.2.1 bt211.2.2 bt216.2.1 bt216.2.2 bt221.2.1 bt221.2.2 (((rd_L3 bt201.1 0).length : Int) != 2)) else (none)) else (manciplelaw5_known.j0 k bt201.1 bt201.2.2 bt206.2.1 bt206.2.2 bt211.2.1 bt211.2.2 bt216.2.1 bt216.2.2 bt221.2.1 bt221.2.2 true))))))) = some r := h
  clear h
  replace H := Option.bind_eq_some_iff.mp H
  obtain ⟨⟨t201, t202, t203⟩, A10, H⟩ := H
  replace H : ((stanza_Parse.f k (⟨#[65, 58, 32, 49, 10, 65, 58, 32, 50, 10]⟩ : ByteArray)).bind fun bt206 => ((stanza_Parse.f k (⟨#[10, 65, 58, 32, 49, 10]⟩ : ByteArray)).bind fun bt211 => ((stanza_Parse.f k (⟨#[65, 58, 32, 49, 10, 10]⟩ : ByteArray)).bind fun bt216 => ((stanza_Parse.f k (⟨#[65, 58, 32, 49, 10, 66, 58, 50, 10]⟩ : ByteArray)).bind fun bt221 => (if (t201.length : Int) = 2 then (if 0 < (t201.length : Int) then (manciplelaw5_known.j0 k t201 t203 bt206.2.1 bt206.2.2 bt211.2.1 bt211.2.2 bt216.2.1 bt216.2.2 bt221.2.1 bt221.2.2 (((rd_L3 t201 0).length : Int) != 2)) else (none)) else (manciplelaw5_known.j0 k t201 t203 bt206.2.1 bt206.2.2 bt211.2.1 bt211.2.2 bt216.2.1 bt216.2.2 bt221.2.1 bt221.2.2 true)))))) = some r := H
  have A1 := Aside0.mk A10
  clear A10
  replace H := Option.bind_eq_some_iff.mp H
  obtain ⟨⟨t206, t207, t208⟩, A20, H⟩ := H
  replace H : ((stanza_Parse.f k (⟨#[10, 65, 58, 32, 49, 10]⟩ : ByteArray)).bind fun bt211 => ((stanza_Parse.f k (⟨#[65, 58, 32, 49, 10, 10]⟩ : ByteArray)).bind fun bt216 => ((stanza_Parse.f k (⟨#[65, 58, 32, 49, 10, 66, 58, 50, 10]⟩ : ByteArray)).bind fun bt221 => (if (t201.length : Int) = 2 then (if 0 < (t201.length : Int) then (manciplelaw5_known.j0 k t201 t203 t207 t208 bt211.2.1 bt211.2.2 bt216.2.1 bt216.2.2 bt221.2.1 bt221.2.2 (((rd_L3 t201 0).length : Int) != 2)) else (none)) else (manciplelaw5_known.j0 k t201 t203 t207 t208 bt211.2.1 bt211.2.2 bt216.2.1 bt216.2.2 bt221.2.1 bt221.2.2 true))))) = some r := H
  have A2 := Aside0.mk A20
  clear A20
  replace H := Option.bind_eq_some_iff.mp H
  obtain ⟨⟨t211, t212, t213⟩, A30, H⟩ := H
  replace H : ((stanza_Parse.f k (⟨#[65, 58, 32, 49, 10, 10]⟩ : ByteArray)).bind fun bt216 => ((stanza_Parse.f k (⟨#[65, 58, 32, 49, 10, 66, 58, 50, 10]⟩ : ByteArray)).bind fun bt221 => (if (t201.length : Int) = 2 then (if 0 < (t201.length : Int) then (manciplelaw5_known.j0 k t201 t203 t207 t208 t212 t213 bt216.2.1 bt216.2.2 bt221.2.1 bt221.2.2 (((rd_L3 t201 0).length : Int) != 2)) else (none)) else (manciplelaw5_known.j0 k t201 t203 t207 t208 t212 t213 bt216.2.1 bt216.2.2 bt221.2.1 bt221.2.2 true)))) = some r := H
  have A3 := Aside0.mk A30
  clear A30
  replace H := Option.bind_eq_some_iff.mp H
  obtain ⟨⟨t216, t217, t218⟩, A40, H⟩ := H
  replace H : ((stanza_Parse.f k (⟨#[65, 58, 32, 49, 10, 66, 58, 50, 10]⟩ : ByteArray)).bind fun bt221 => (if (t201.length : Int) = 2 then (if 0 < (t201.length : Int) then (manciplelaw5_known.j0 k t201 t203 t207 t208 t212 t213 t217 t218 bt221.2.1 bt221.2.2 (((rd_L3 t201 0).length : Int) != 2)) else (none)) else (manciplelaw5_known.j0 k t201 t203 t207 t208 t212 t213 t217 t218 bt221.2.1 bt221.2.2 true))) = some r := H
  have A4 := Aside0.mk A40
  clear A40
  replace H := Option.bind_eq_some_iff.mp H
  obtain ⟨⟨t221, t222, t223⟩, A50, H⟩ := H
  replace H : (if (t201.length : Int) = 2 then (if 0 < (t201.length : Int) then (manciplelaw5_known.j0 k t201 t203 t207 t208 t212 t213 t217 t218 t222 t223 (((rd_L3 t201 0).length : Int) != 2)) else (none)) else (manciplelaw5_known.j0 k t201 t203 t207 t208 t212 t213 t217 t218 t222 t223 true)) = some r := H
  have A5 := Aside0.mk A50
  clear A50
  have HC6 := Aside0.mk H
  clear H
  go_enter Tryd.func7, Tryd.ntmps7
  simp only [List.append_eq, List.cons_append, List.nil_append]
  go_upto_region 6 with (first | ((with_reducible refine gate_callee (f := 8) rfl ?_); refine goesL_ (some 25) rfl rfl Tryd.func8 (by kernel_rfl) rfl #[.string (⟨#[65, 58, 32, 49, 10, 66, 58, 32, 10, 10, 65, 58, 32, 120, 32, 121, 10]⟩ : ByteArray)] rfl (by (try simp only [List.map_toArray, List.map_cons, List.map_nil]); first | done | rfl | (simp only [List.length_drop, List.length_take]; rfl)) ?_; (with_reducible refine (stanza_Parse.calls k (⟨#[65, 58, 32, 49, 10, 66, 58, 32, 10, 10, 65, 58, 32, 120, 32, 121, 10]⟩ : ByteArray) t201 t202 t203 _ (Glob.below HG.out (by repeat (first | (with_reducible first | exact HB.out | apply below_alloc | apply pw_below_drewN | apply below_drew1) | exact HB.out))) A1.out).mono ?_); rintro e w7 ⟨v204, rfl, ho0, hb⟩; refine ⟨_, rfl, ?_⟩; have n0_ := Aside0.mk (Kd.N_lower (Kd.N_mono (ok' := fun k_ => True) (Kd.S_N (Kd.S_bound ho0)) (fun k_ hk_ => trivial)) (below_size (by repeat (first | (with_reducible first | exact HB.out | apply below_alloc | apply pw_below_drewN | apply below_drew1) | exact HB.out)))); have n1_ := Aside0.mk (below_step (by repeat (first | (with_reducible first | exact HB.out | apply below_alloc | apply pw_below_drewN | apply below_drew1) | exact HB.out)) hb); clear HB; have HO205 := n0_; have HB := n1_; clear n0_ n1_; (try clear hb); (try clear hb2); (try clear hk); (try clear hi); (try clear ho0)) | ((with_reducible refine gate_callee (f := 8) rfl ?_); refine goesL_ (some 30) rfl rfl Tryd.func8 (by kernel_rfl) rfl #[.string (⟨#[65, 58, 32, 49, 10, 65, 58, 32, 50, 10]⟩ : ByteArray)] rfl (by (try simp only [List.map_toArray, List.map_cons, List.map_nil]); first | done | rfl | (simp only [List.length_drop, List.length_take]; rfl)) ?_; (with_reducible refine (stanza_Parse.calls k (⟨#[65, 58, 32, 49, 10, 65, 58, 32, 50, 10]⟩ : ByteArray) t206 t207 t208 _ (Glob.below HG.out (by repeat (first | (with_reducible first | exact HB.out | apply below_alloc | apply pw_below_drewN | apply below_drew1) | exact HB.out))) A2.out).mono ?_); rintro e w8 ⟨v209, rfl, ho0, hb⟩; refine ⟨_, rfl, ?_⟩; have n0_ := Aside0.mk (Kd.N_elder' (by (with_reducible repeat (first | apply Kd.N_alloc | apply Kd.N_drewN | apply Kd.N_drew)); exact HO205.out) (Kd.S_base ho0) hb); have n1_ := Aside0.mk (Kd.N_lower (Kd.N_mono (ok' := fun k_ => some k_ ≠ (v204 : Value).ownBlock) (Kd.S_N (Kd.S_bound ho0)) (fun k_ hk_ => (Kd.fresh' (Kd.N_lt (by (with_reducible repeat (first | apply Kd.N_alloc | apply Kd.N_drewN | apply Kd.N_drew)); exact HO205.out)) k_ hk_.2.1))) (below_size (by repeat (first | (with_reducible first | exact HB.out | apply below_alloc | apply pw_below_drewN | apply below_drew1) | exact HB.out)))); have n2_ := Aside0.mk (below_step (by repeat (first | (with_reducible first | exact HB.out | apply below_alloc | apply pw_below_drewN | apply below_drew1) | exact HB.out)) hb); clear HO205; clear HB; have HO205 := n0_; have HO210 := n1_; have HB := n2_; clear n0_ n1_ n2_; (try clear hb); (try clear hb2); (try clear hk); (try clear hi); (try clear ho0)) | ((with_reducible refine gate_callee (f := 8) rfl ?_); refine goesL_ (some 35) rfl rfl Tryd.func8 (by kernel_rfl) rfl #[.string (⟨#[10, 65, 58, 32, 49, 10]⟩ : ByteArray)] rfl (by (try simp only [List.map_toArray, List.map_cons, List.map_nil]); first | done | rfl | (simp only [List.length_drop, List.length_take]; rfl)) ?_; (with_reducible refine (stanza_Parse.calls k (⟨#[10, 65, 58, 32, 49, 10]⟩ : ByteArray) t211 t212 t213 _ (Glob.below HG.out (by repeat (first | (with_reducible first | exact HB.out | apply below_alloc | apply pw_below_drewN | apply below_drew1) | exact HB.out))) A3.out).mono ?_); rintro e w9 ⟨v214, rfl, ho0, hb⟩; refine ⟨_, rfl, ?_⟩; have n0_ := Aside0.mk (Kd.N_elder' (by (with_reducible repeat (first | apply Kd.N_alloc | apply Kd.N_drewN | apply Kd.N_drew)); exact HO205.out) (Kd.S_base ho0) hb); have n1_ := Aside0.mk (Kd.N_elder' (by (with_reducible repeat (first | apply Kd.N_alloc | apply Kd.N_drewN | apply Kd.N_drew)); exact HO210.out) (Kd.S_base ho0) hb); have n2_ := Aside0.mk (Kd.N_lower (Kd.N_mono (ok' := fun k_ => some k_ ≠ (v204 : Value).ownBlock ∧ some k_ ≠ (v209 : Value).ownBlock) (Kd.S_N (Kd.S_bound ho0)) (fun k_ hk_ => ⟨(Kd.fresh' (Kd.N_lt (by (with_reducible repeat (first | apply Kd.N_alloc | apply Kd.N_drewN | apply Kd.N_drew)); exact HO205.out)) k_ hk_.2.1), (Kd.fresh' (Kd.N_lt (by (with_reducible repeat (first | apply Kd.N_alloc | apply Kd.N_drewN | apply Kd.N_drew)); exact HO210.out)) k_ hk_.2.1)⟩)) (below_size (by repeat (first | (with_reducible first | exact HB.out | apply below_alloc | apply pw_below_drewN | apply below_drew1) | exact HB.out)))); have n3_ := Aside0.mk (below_step (by repeat (first | (with_reducible first | exact HB.out | apply below_alloc | apply pw_below_drewN | apply below_drew1) | exact HB.out)) hb); clear HO205; clear HO210; clear HB; have HO205 := n0_; have HO210 := n1_; have HO215 := n2_; have HB := n3_; clear n0_ n1_ n2_ n3_; (try clear hb); (try clear hb2); (try clear hk); (try clear hi); (try clear ho0)) | ((with_reducible refine gate_callee (f := 8) rfl ?_); refine goesL_ (some 40) rfl rfl Tryd.func8 (by kernel_rfl) rfl #[.string (⟨#[65, 58, 32, 49, 10, 10]⟩ : ByteArray)] rfl (by (try simp only [List.map_toArray, List.map_cons, List.map_nil]); first | done | rfl | (simp only [List.length_drop, List.length_take]; rfl)) ?_; (with_reducible refine (stanza_Parse.calls k (⟨#[65, 58, 32, 49, 10, 10]⟩ : ByteArray) t216 t217 t218 _ (Glob.below HG.out (by repeat (first | (with_reducible first | exact HB.out | apply below_alloc | apply pw_below_drewN | apply below_drew1) | exact HB.out))) A4.out).mono ?_); rintro e w10 ⟨v219, rfl, ho0, hb⟩; refine ⟨_, rfl, ?_⟩; have n0_ := Aside0.mk (Kd.N_elder' (by (with_reducible repeat (first | apply Kd.N_alloc | apply Kd.N_drewN | apply Kd.N_drew)); exact HO205.out) (Kd.S_base ho0) hb); have n1_ := Aside0.mk (Kd.N_elder' (by (with_reducible repeat (first | apply Kd.N_alloc | apply Kd.N_drewN | apply Kd.N_drew)); exact HO210.out) (Kd.S_base ho0) hb); have n2_ := Aside0.mk (Kd.N_elder' (by (with_reducible repeat (first | apply Kd.N_alloc | apply Kd.N_drewN | apply Kd.N_drew)); exact HO215.out) (Kd.S_base ho0) hb); have n3_ := Aside0.mk (Kd.N_lower (Kd.N_mono (ok' := fun k_ => some k_ ≠ (v204 : Value).ownBlock ∧ some k_ ≠ (v209 : Value).ownBlock ∧ some k_ ≠ (v214 : Value).ownBlock) (Kd.S_N (Kd.S_bound ho0)) (fun k_ hk_ => ⟨(Kd.fresh' (Kd.N_lt (by (with_reducible repeat (first | apply Kd.N_alloc | apply Kd.N_drewN | apply Kd.N_drew)); exact HO205.out)) k_ hk_.2.1), (Kd.fresh' (Kd.N_lt (by (with_reducible repeat (first | apply Kd.N_alloc | apply Kd.N_drewN | apply Kd.N_drew)); exact HO210.out)) k_ hk_.2.1), (Kd.fresh' (Kd.N_lt (by (with_reducible repeat (first | apply Kd.N_alloc | apply Kd.N_drewN | apply Kd.N_drew)); exact HO215.out)) k_ hk_.2.1)⟩)) (below_size (by repeat (first | (with_reducible first | exact HB.out | apply below_alloc | apply pw_below_drewN | apply below_drew1) | exact HB.out)))); have n4_ := Aside0.mk (below_step (by repeat (first | (with_reducible first | exact HB.out | apply below_alloc | apply pw_below_drewN | apply below_drew1) | exact HB.out)) hb); clear HO205; clear HO210; clear HO215; clear HB; have HO205 := n0_; have HO210 := n1_; have HO215 := n2_; have HO220 := n3_; have HB := n4_; clear n0_ n1_ n2_ n3_ n4_; (try clear hb); (try clear hb2); (try clear hk); (try clear hi); (try clear ho0)) | ((with_reducible refine gate_callee (f := 8) rfl ?_); refine goesL_ (some 45) rfl rfl Tryd.func8 (by kernel_rfl) rfl #[.string (⟨#[65, 58, 32, 49, 10, 66, 58, 50, 10]⟩ : ByteArray)] rfl (by (try simp only [List.map_toArray, List.map_cons, List.map_nil]); first | done | rfl | (simp only [List.length_drop, List.length_take]; rfl)) ?_; (with_reducible refine (stanza_Parse.calls k (⟨#[65, 58, 32, 49, 10, 66, 58, 50, 10]⟩ : ByteArray) t221 t222 t223 _ (Glob.below HG.out (by repeat (first | (with_reducible first | exact HB.out | apply below_alloc | apply pw_below_drewN | apply below_drew1) | exact HB.out))) A5.out).mono ?_); rintro e w11 ⟨v224, rfl, ho0, hb⟩; refine ⟨_, rfl, ?_⟩; have n0_ := Aside0.mk (Kd.N_elder' (by (with_reducible repeat (first | apply Kd.N_alloc | apply Kd.N_drewN | apply Kd.N_drew)); exact HO205.out) (Kd.S_base ho0) hb); have n1_ := Aside0.mk (Kd.N_elder' (by (with_reducible repeat (first | apply Kd.N_alloc | apply Kd.N_drewN | apply Kd.N_drew)); exact HO210.out) (Kd.S_base ho0) hb); have n2_ := Aside0.mk (Kd.N_elder' (by (with_reducible repeat (first | apply Kd.N_alloc | apply Kd.N_drewN | apply Kd.N_drew)); exact HO215.out) (Kd.S_base ho0) hb); have n3_ := Aside0.mk (Kd.N_elder' (by (with_reducible repeat (first | apply Kd.N_alloc | apply Kd.N_drewN | apply Kd.N_drew)); exact HO220.out) (Kd.S_base ho0) hb); have n4_ := Aside0.mk (Kd.N_lower (Kd.N_mono (ok' := fun k_ => some k_ ≠ (v204 : Value).ownBlock ∧ some k_ ≠ (v209 : Value).ownBlock ∧ some k_ ≠ (v214 : Value).ownBlock ∧ some k_ ≠ (v219 : Value).ownBlock) (Kd.S_N (Kd.S_bound ho0)) (fun k_ hk_ => ⟨(Kd.fresh' (Kd.N_lt (by (with_reducible repeat (first | apply Kd.N_alloc | apply Kd.N_drewN | apply Kd.N_drew)); exact HO205.out)) k_ hk_.2.1), (Kd.fresh' (Kd.N_lt (by (with_reducible repeat (first | apply Kd.N_alloc | apply Kd.N_drewN | apply Kd.N_drew)); exact HO210.out)) k_ hk_.2.1), (Kd.fresh' (Kd.N_lt (by (with_reducible repeat (first | apply Kd.N_alloc | apply Kd.N_drewN | apply Kd.N_drew)); exact HO215.out)) k_ hk_.2.1), (Kd.fresh' (Kd.N_lt (by (with_reducible repeat (first | apply Kd.N_alloc | apply Kd.N_drewN | apply Kd.N_drew)); exact HO220.out)) k_ hk_.2.1)⟩)) (below_size (by repeat (first | (with_reducible first | exact HB.out | apply below_alloc | apply pw_below_drewN | apply below_drew1) | exact HB.out)))); have n5_ := Aside0.mk (below_step (by repeat (first | (with_reducible first | exact HB.out | apply below_alloc | apply pw_below_drewN | apply below_drew1) | exact HB.out)) hb); clear HO205; clear HO210; clear HO215; clear HO220; clear HB; have HO205 := n0_; have HO210 := n1_; have HO215 := n2_; have HO220 := n3_; have HO225 := n4_; have HB := n5_; clear n0_ n1_ n2_ n3_ n4_ n5_; (try clear hb); (try clear hb2); (try clear hk); (try clear hi); (try clear ho0)))
  (try simp only [Act.put, List.setIfInBounds_toArray, List.set_cons_zero, List.set_cons_succ])
  go_cut [58] (fun v58 wc => ∃ (kq : Nat) (x58_5 : Bool), v58 = .bool x58_5 ∧ Aside0 (manciplelaw5_known.j0 kq t201 t203 t207 t208 t212 t213 t217 t218 t222 t223 x58_5 = some r) ∧ Aside0 (kq ≤ k) ∧ Aside0 (Kd.N (Kd.slice 43 k43) 38 wc w.heap.size (fun _ => True) v204 t201) ∧ Aside0 (Below w.heap.size w wc))
  case first =>
    have H := HC6.out
    clear HC6
    by_cases c12 : (t201.length : Int) = 2
    · rw [if_pos c12] at H
      have c12b0 : ((t201.length : Int) == 2) = true := beq_iff_eq.mpr c12
      have c12b1 : ((t201.length : Int) != 2) = false := bne_eq_false_iff_eq.mpr c12
      clear c12
      (first | rw [c12b0] | (simp only [i64_w, i32_w]; rw [c12b0]) | rw [c12b2] | skip)
      by_cases c13 : 0 < (t201.length : Int)
      · rw [if_pos c13] at H
        have c13b0 : decide (0 < (t201.length : Int)) = true := decide_eq_true c13
        have c13b1 : decide (0 < t201.length) = true := decide_eq_true (by omega)
        clear c13
        have H' := Aside0.mk H
        clear H
        obtain ⟨Ao14, co14, eo14⟩ := Kd.N_slice HO205.out
        subst eo14
        have p226 : 0 ≤ (0 : Int) := (by omega)
        have q226 : 0 < (t201.length : Int) := of_decide_eq_true (by first | (with_reducible assumption) | assumption)
        obtain ⟨ad226, A226_0, c226_0, e226, hx226_0, hl226_0, hi226_0⟩ := at_L3 (Kd.N_reads' HO205.out).2.2 0 p226 q226
        cases e226
        obtain ⟨ce226, hce226, hMe226, hcc226⟩ := Kd.N_get HO205.out [] 0 p226 (by first | exact q226 | exact of_decide_eq_true (by first | (with_reducible assumption) | assumption) | (have e_ := (Kd.N_reads' HO205.out).1; omega))
        obtain ⟨ua226_0, uc226_0, rfl, ul226_0, ge226_0⟩ := Kd.FK_slice_open hMe226
        have hv226_0 := hcc226 0 _ rfl
        rw [Nat.add_zero, show ((Kd.slice 43 k43)).sz = 1 from rfl, Nat.mul_one] at hv226_0
        replace hv226_0 := Option.some.inj (hv226_0.symm.trans hx226_0)
        injection hv226_0 with hva_ hvn_ hvc_
        rw [hva_] at ge226_0
        rw [hvc_] at ul226_0
        have HL226_0 := Aside0.mk (show Kd.V k43 43 _ w.heap.size _ _ (rd_L3 t201 0) from Kd.V_mk ul226_0 ge226_0)
        clear hva_ hvn_ hvc_ ge226_0 ul226_0
        clear hcc226 hce226
        have qi226 : (0 < t201.length) = True := eq_true (by omega)
        (try rw [show ((0 : Int)).toNat = 0 from rfl] at hx226_0)
        (try rw [Addr.add_zero'] at hx226_0)
        have HR226_0 := Aside0.mk hi226_0
        have HC226_0 := Aside0.mk hl226_0
        clear hi226_0 hl226_0
        replace p226 := eq_true p226
        replace q226 := eq_true q226
        go_wp2
        go_meet
        case rel => exact ⟨_, ((((rd_L3 t201 0).length : Int) != 2)), (by first | rfl | (simp; done) | (simp [*]; done)), H', ⟨by first | omega | exact Nat.le_refl _⟩, ⟨by (with_reducible repeat (first | apply Kd.N_alloc | apply Kd.N_drewN | apply Kd.N_drew)); exact Kd.N_mono HO205.out (fun _ hk => trivial)⟩, ⟨by repeat (first | (with_reducible first | exact HB.out | apply below_alloc | apply pw_below_drewN | apply below_drew1) | exact HB.out)⟩⟩
      · rw [if_neg c13] at H
        exact absurd H (by simp)
    · rw [if_neg c12] at H
      have c12b0 : ((t201.length : Int) == 2) = false := beq_eq_false_iff_ne.mpr c12
      have c12b1 : ((t201.length : Int) != 2) = true := bne_iff_ne.mpr c12
      (first | rw [c12b0] | (simp only [i64_w, i32_w]; rw [c12b0]) | rw [c12b2] | skip)
      have H' := Aside0.mk H
      clear H
      obtain ⟨Ao15, co15, eo15⟩ := Kd.N_slice HO205.out
      subst eo15
      go_wp2
      go_meet
      case rel => exact ⟨_, (true), (by first | rfl | (simp; done) | (simp [*]; done)), H', ⟨by first | omega | exact Nat.le_refl _⟩, ⟨by (with_reducible repeat (first | apply Kd.N_alloc | apply Kd.N_drewN | apply Kd.N_drew)); exact Kd.N_mono HO205.out (fun _ hk => trivial)⟩, ⟨by repeat (first | (with_reducible first | exact HB.out | apply below_alloc | apply pw_below_drewN | apply below_drew1) | exact HB.out)⟩⟩
  case rest =>
    clear HC6
    try clear c1
    try clear c2
    try clear p2
    try clear q2
    try clear hx2
    try clear qi2
    try clear c7
    try clear c8
    try clear c12
    try clear c12b0
    try clear c12b1
    try clear c12b2
    try clear c13
    try clear c13b0
    try clear c13b1
    try clear hx226_0
    try clear p226
    try clear q226
    obtain ⟨kq, x58_5, rfl, HA, HJ5, HO_1, HB⟩ := hcut
    cases kq with
    | zero => exact absurd HA.out (by simp [manciplelaw5_known.j0])
    | succ kj5 =>
      have H := HA.out
      clear HA
      simp only [manciplelaw5_known.j0] at H
      by_cases c16 : x58_5 = true
      · subst c16
        have H1 : (none) = some r := by rw [if_pos rfl] at H; exact H
        clear H
        have H := H1
        clear H1
        exact absurd H (by simp)
      · replace c16 := Bool.eq_false_iff.mpr c16
        subst c16
        have H1 : (if 0 < (t201.length : Int) then ((stanza_Get.f (rd_L3 t201 0) (⟨#[66]⟩ : ByteArray)).bind fun bt228 => (if 1 < (t201.length : Int) then ((stanza_Get.f (rd_L3 t201 1) (⟨#[66]⟩ : ByteArray)).bind fun bt234 => ((stanza_Order.f kj5 (rd_L3 t201 0) (([(⟨#[66]⟩ : ByteArray), (⟨#[65]⟩ : ByteArray)] : List ByteArray))).bind fun bt243 => ((stanza_Order.f kj5 (rd_L3 t201 0) (([(⟨#[65]⟩ : ByteArray)] : List ByteArray))).bind fun bt249 => (if t203 = 0 then ((manciplelaw5_same.f kj5 t201 (([(([(⟨(⟨#[65]⟩ : ByteArray), (⟨#[49]⟩ : ByteArray), 0⟩ : S46), (⟨(⟨#[66]⟩ : ByteArray), (⟨#[]⟩ : ByteArray), 1⟩ : S46)] : List (S46))), (([(⟨(⟨#[65]⟩ : ByteArray), (⟨#[120, 32, 121]⟩ : ByteArray), 3⟩ : S46)] : List (S46)))] : List (List (S46))))).bind fun t260 => (if t260 = true then ((stanza_Print.f t201).bind fun t261 => (if t261.toList = ([65, 58, 32, 49, 10, 66, 58, 32, 10, 10, 65, 58, 32, 120, 32, 121, 10] : List UInt8) then (if t208 = 6 then (if t207 = 1 then (if t213 = 2 then (if t212 = 0 then (if t218 = 2 then (if t217 = 1 then (if t223 = 2 then (if t222 = 1 then (if bt228.2.2.2 = true then (if bt228.2.2.1 = 1 then (if bt234.2.2.2 = true then (none) else (if bt243.2 = 7 then (if bt243.1 = 1 then (if bt249.2 = 10 then (some (bt249.1 == 1)) else (none)) else (none)) else (none))) else (none)) else (none)) else (none)) else (none)) else (none)) else (none)) else (none)) else (none)) else (none)) else (none)) else (none))) else (none))) else (none))))) else (none))) else (none)) = some r := by rw [if_neg (show ¬ (false = true) by decide)] at H; exact H
        clear H
        have H := H1
        clear H1
        by_cases c17 : 0 < (t201.length : Int)
        · rw [if_pos c17] at H
          have c17b0 : decide (0 < (t201.length : Int)) = true := decide_eq_true c17
          have c17b1 : decide (0 < t201.length) = true := decide_eq_true (by omega)
          clear c17
          replace H := Option.bind_eq_some_iff.mp H
          obtain ⟨⟨t228, t229, t230, t231⟩, A180, H⟩ := H
          replace H : (if 1 < (t201.length : Int) then ((stanza_Get.f (rd_L3 t201 1) (⟨#[66]⟩ : ByteArray)).bind fun bt234 => ((stanza_Order.f kj5 (rd_L3 t201 0) (([(⟨#[66]⟩ : ByteArray), (⟨#[65]⟩ : ByteArray)] : List ByteArray))).bind fun bt243 => ((stanza_Order.f kj5 (rd_L3 t201 0) (([(⟨#[65]⟩ : ByteArray)] : List ByteArray))).bind fun bt249 => (if t203 = 0 then ((manciplelaw5_same.f kj5 t201 (([(([(⟨(⟨#[65]⟩ : ByteArray), (⟨#[49]⟩ : ByteArray), 0⟩ : S46), (⟨(⟨#[66]⟩ : ByteArray), (⟨#[]⟩ : ByteArray), 1⟩ : S46)] : List (S46))), (([(⟨(⟨#[65]⟩ : ByteArray), (⟨#[120, 32, 121]⟩ : ByteArray), 3⟩ : S46)] : List (S46)))] : List (List (S46))))).bind fun t260 => (if t260 = true then ((stanza_Print.f t201).bind fun t261 => (if t261.toList = ([65, 58, 32, 49, 10, 66, 58, 32, 10, 10, 65, 58, 32, 120, 32, 121, 10] : List UInt8) then (if t208 = 6 then (if t207 = 1 then (if t213 = 2 then (if t212 = 0 then (if t218 = 2 then (if t217 = 1 then (if t223 = 2 then (if t222 = 1 then (if t231 = true then (if t230 = 1 then (if bt234.2.2.2 = true then (none) else (if bt243.2 = 7 then (if bt243.1 = 1 then (if bt249.2 = 10 then (some (bt249.1 == 1)) else (none)) else (none)) else (none))) else (none)) else (none)) else (none)) else (none)) else (none)) else (none)) else (none)) else (none)) else (none)) else (none)) else (none))) else (none))) else (none))))) else (none)) = some r := H
          have A18 := Aside0.mk A180
          clear A180
          by_cases c19 : 1 < (t201.length : Int)
          · rw [if_pos c19] at H
            have c19b0 : decide (1 < (t201.length : Int)) = true := decide_eq_true c19
            have c19b1 : decide (1 < t201.length) = true := decide_eq_true (by omega)
            clear c19
            replace H := Option.bind_eq_some_iff.mp H
            obtain ⟨⟨t234, t235, t236, t237⟩, A200, H⟩ := H
            replace H : ((stanza_Order.f kj5 (rd_L3 t201 0) (([(⟨#[66]⟩ : ByteArray), (⟨#[65]⟩ : ByteArray)] : List ByteArray))).bind fun bt243 => ((stanza_Order.f kj5 (rd_L3 t201 0) (([(⟨#[65]⟩ : ByteArray)] : List ByteArray))).bind fun bt249 => (if t203 = 0 then ((manciplelaw5_same.f kj5 t201 (([(([(⟨(⟨#[65]⟩ : ByteArray), (⟨#[49]⟩ : ByteArray), 0⟩ : S46), (⟨(⟨#[66]⟩ : ByteArray), (⟨#[]⟩ : ByteArray), 1⟩ : S46)] : List (S46))), (([(⟨(⟨#[65]⟩ : ByteArray), (⟨#[120, 32, 121]⟩ : ByteArray), 3⟩ : S46)] : List (S46)))] : List (List (S46))))).bind fun t260 => (if t260 = true then ((stanza_Print.f t201).bind fun t261 => (if t261.toList = ([65, 58, 32, 49, 10, 66, 58, 32, 10, 10, 65, 58, 32, 120, 32, 121, 10] : List UInt8) then (if t208 = 6 then (if t207 = 1 then (if t213 = 2 then (if t212 = 0 then (if t218 = 2 then (if t217 = 1 then (if t223 = 2 then (if t222 = 1 then (if t231 = true then (if t230 = 1 then (if t237 = true then (none) else (if bt243.2 = 7 then (if bt243.1 = 1 then (if bt249.2 = 10 then (some (bt249.1 == 1)) else (none)) else (none)) else (none))) else (none)) else (none)) else (none)) else (none)) else (none)) else (none)) else (none)) else (none)) else (none)) else (none)) else (none))) else (none))) else (none)))) = some r := H
            have A20 := Aside0.mk A200
            clear A200
            obtain ⟨y240, hy240⟩ : ∃ y_ : List ByteArray, y_ = (([(⟨#[66]⟩ : ByteArray), (⟨#[65]⟩ : ByteArray)] : List ByteArray)) := ⟨_, rfl⟩
            replace H : ((stanza_Order.f kj5 (rd_L3 t201 0) y240).bind fun bt243 => ((stanza_Order.f kj5 (rd_L3 t201 0) (([(⟨#[65]⟩ : ByteArray)] : List ByteArray))).bind fun bt249 => (if t203 = 0 then ((manciplelaw5_same.f kj5 t201 (([(([(⟨(⟨#[65]⟩ : ByteArray), (⟨#[49]⟩ : ByteArray), 0⟩ : S46), (⟨(⟨#[66]⟩ : ByteArray), (⟨#[]⟩ : ByteArray), 1⟩ : S46)] : List (S46))), (([(⟨(⟨#[65]⟩ : ByteArray), (⟨#[120, 32, 121]⟩ : ByteArray), 3⟩ : S46)] : List (S46)))] : List (List (S46))))).bind fun t260 => (if t260 = true then ((stanza_Print.f t201).bind fun t261 => (if t261.toList = ([65, 58, 32, 49, 10, 66, 58, 32, 10, 10, 65, 58, 32, 120, 32, 121, 10] : List UInt8) then (if t208 = 6 then (if t207 = 1 then (if t213 = 2 then (if t212 = 0 then (if t218 = 2 then (if t217 = 1 then (if t223 = 2 then (if t222 = 1 then (if t231 = true then (if t230 = 1 then (if t237 = true then (none) else (if bt243.2 = 7 then (if bt243.1 = 1 then (if bt249.2 = 10 then (some (bt249.1 == 1)) else (none)) else (none)) else (none))) else (none)) else (none)) else (none)) else (none)) else (none)) else (none)) else (none)) else (none)) else (none)) else (none)) else (none))) else (none))) else (none)))) = some r := by first | (rw [hy240]; with_reducible exact H) | (have H2_ := (Option.bind_some _ _).symm.trans H; rw [hy240]; with_reducible exact H2_) | (have H2_ := (Option.bind_some _ _).symm.trans H; with_reducible exact H2_) | with_reducible exact H | (rw [hy240]; exact H) | exact H
            have Ny240 := Aside0.mk hy240
            clear hy240
            replace H := Option.bind_eq_some_iff.mp H
            obtain ⟨⟨t243, t244⟩, A210, H⟩ := H
            replace H : ((stanza_Order.f kj5 (rd_L3 t201 0) (([(⟨#[65]⟩ : ByteArray)] : List ByteArray))).bind fun bt249 => (if t203 = 0 then ((manciplelaw5_same.f kj5 t201 (([(([(⟨(⟨#[65]⟩ : ByteArray), (⟨#[49]⟩ : ByteArray), 0⟩ : S46), (⟨(⟨#[66]⟩ : ByteArray), (⟨#[]⟩ : ByteArray), 1⟩ : S46)] : List (S46))), (([(⟨(⟨#[65]⟩ : ByteArray), (⟨#[120, 32, 121]⟩ : ByteArray), 3⟩ : S46)] : List (S46)))] : List (List (S46))))).bind fun t260 => (if t260 = true then ((stanza_Print.f t201).bind fun t261 => (if t261.toList = ([65, 58, 32, 49, 10, 66, 58, 32, 10, 10, 65, 58, 32, 120, 32, 121, 10] : List UInt8) then (if t208 = 6 then (if t207 = 1 then (if t213 = 2 then (if t212 = 0 then (if t218 = 2 then (if t217 = 1 then (if t223 = 2 then (if t222 = 1 then (if t231 = true then (if t230 = 1 then (if t237 = true then (none) else (if t244 = 7 then (if t243 = 1 then (if bt249.2 = 10 then (some (bt249.1 == 1)) else (none)) else (none)) else (none))) else (none)) else (none)) else (none)) else (none)) else (none)) else (none)) else (none)) else (none)) else (none)) else (none)) else (none))) else (none))) else (none))) = some r := H
            have A21 := Aside0.mk A210
            clear A210
            obtain ⟨y246, hy246⟩ : ∃ y_ : List ByteArray, y_ = (([(⟨#[65]⟩ : ByteArray)] : List ByteArray)) := ⟨_, rfl⟩
            replace H : ((stanza_Order.f kj5 (rd_L3 t201 0) y246).bind fun bt249 => (if t203 = 0 then ((manciplelaw5_same.f kj5 t201 (([(([(⟨(⟨#[65]⟩ : ByteArray), (⟨#[49]⟩ : ByteArray), 0⟩ : S46), (⟨(⟨#[66]⟩ : ByteArray), (⟨#[]⟩ : ByteArray), 1⟩ : S46)] : List (S46))), (([(⟨(⟨#[65]⟩ : ByteArray), (⟨#[120, 32, 121]⟩ : ByteArray), 3⟩ : S46)] : List (S46)))] : List (List (S46))))).bind fun t260 => (if t260 = true then ((stanza_Print.f t201).bind fun t261 => (if t261.toList = ([65, 58, 32, 49, 10, 66, 58, 32, 10, 10, 65, 58, 32, 120, 32, 121, 10] : List UInt8) then (if t208 = 6 then (if t207 = 1 then (if t213 = 2 then (if t212 = 0 then (if t218 = 2 then (if t217 = 1 then (if t223 = 2 then (if t222 = 1 then (if t231 = true then (if t230 = 1 then (if t237 = true then (none) else (if t244 = 7 then (if t243 = 1 then (if bt249.2 = 10 then (some (bt249.1 == 1)) else (none)) else (none)) else (none))) else (none)) else (none)) else (none)) else (none)) else (none)) else (none)) else (none)) else (none)) else (none)) else (none)) else (none))) else (none))) else (none))) = some r := by first | (rw [hy246]; with_reducible exact H) | (have H2_ := (Option.bind_some _ _).symm.trans H; rw [hy246]; with_reducible exact H2_) | (have H2_ := (Option.bind_some _ _).symm.trans H; with_reducible exact H2_) | with_reducible exact H | (rw [hy246]; exact H) | exact H
            have Ny246 := Aside0.mk hy246
            clear hy246
            replace H := Option.bind_eq_some_iff.mp H
            obtain ⟨⟨t249, t250⟩, A220, H⟩ := H
            replace H : (if t203 = 0 then ((manciplelaw5_same.f kj5 t201 (([(([(⟨(⟨#[65]⟩ : ByteArray), (⟨#[49]⟩ : ByteArray), 0⟩ : S46), (⟨(⟨#[66]⟩ : ByteArray), (⟨#[]⟩ : ByteArray), 1⟩ : S46)] : List (S46))), (([(⟨(⟨#[65]⟩ : ByteArray), (⟨#[120, 32, 121]⟩ : ByteArray), 3⟩ : S46)] : List (S46)))] : List (List (S46))))).bind fun t260 => (if t260 = true then ((stanza_Print.f t201).bind fun t261 => (if t261.toList = ([65, 58, 32, 49, 10, 66, 58, 32, 10, 10, 65, 58, 32, 120, 32, 121, 10] : List UInt8) then (if t208 = 6 then (if t207 = 1 then (if t213 = 2 then (if t212 = 0 then (if t218 = 2 then (if t217 = 1 then (if t223 = 2 then (if t222 = 1 then (if t231 = true then (if t230 = 1 then (if t237 = true then (none) else (if t244 = 7 then (if t243 = 1 then (if t250 = 10 then (some (t249 == 1)) else (none)) else (none)) else (none))) else (none)) else (none)) else (none)) else (none)) else (none)) else (none)) else (none)) else (none)) else (none)) else (none)) else (none))) else (none))) else (none)) = some r := H
            have A22 := Aside0.mk A220
            clear A220
            by_cases c23 : t203 = 0
            · rw [if_pos c23] at H
              have c23b0 : (t203 == 0) = true := beq_iff_eq.mpr c23
              have c23b1 : (t203 != 0) = false := bne_eq_false_iff_eq.mpr c23
              clear c23
              obtain ⟨y251, hy251⟩ : ∃ y_ : List (S46), y_ = (([(⟨(⟨#[65]⟩ : ByteArray), (⟨#[49]⟩ : ByteArray), 0⟩ : S46), (⟨(⟨#[66]⟩ : ByteArray), (⟨#[]⟩ : ByteArray), 1⟩ : S46)] : List (S46))) := ⟨_, rfl⟩
              replace H : ((manciplelaw5_same.f kj5 t201 (([y251, (([(⟨(⟨#[65]⟩ : ByteArray), (⟨#[120, 32, 121]⟩ : ByteArray), 3⟩ : S46)] : List (S46)))] : List (List (S46))))).bind fun t260 => (if t260 = true then ((stanza_Print.f t201).bind fun t261 => (if t261.toList = ([65, 58, 32, 49, 10, 66, 58, 32, 10, 10, 65, 58, 32, 120, 32, 121, 10] : List UInt8) then (if t208 = 6 then (if t207 = 1 then (if t213 = 2 then (if t212 = 0 then (if t218 = 2 then (if t217 = 1 then (if t223 = 2 then (if t222 = 1 then (if t231 = true then (if t230 = 1 then (if t237 = true then (none) else (if t244 = 7 then (if t243 = 1 then (if t250 = 10 then (some (t249 == 1)) else (none)) else (none)) else (none))) else (none)) else (none)) else (none)) else (none)) else (none)) else (none)) else (none)) else (none)) else (none)) else (none)) else (none))) else (none))) = some r := by first | (rw [hy251]; with_reducible exact H) | (have H2_ := (Option.bind_some _ _).symm.trans H; rw [hy251]; with_reducible exact H2_) | (have H2_ := (Option.bind_some _ _).symm.trans H; with_reducible exact H2_) | with_reducible exact H | (rw [hy251]; exact H) | exact H
              have Ny251 := Aside0.mk hy251
              clear hy251
              obtain ⟨y254, hy254⟩ : ∃ y_ : List (S46), y_ = (([(⟨(⟨#[65]⟩ : ByteArray), (⟨#[120, 32, 121]⟩ : ByteArray), 3⟩ : S46)] : List (S46))) := ⟨_, rfl⟩
              replace H : ((manciplelaw5_same.f kj5 t201 (([y251, y254] : List (List (S46))))).bind fun t260 => (if t260 = true then ((stanza_Print.f t201).bind fun t261 => (if t261.toList = ([65, 58, 32, 49, 10, 66, 58, 32, 10, 10, 65, 58, 32, 120, 32, 121, 10] : List UInt8) then (if t208 = 6 then (if t207 = 1 then (if t213 = 2 then (if t212 = 0 then (if t218 = 2 then (if t217 = 1 then (if t223 = 2 then (if t222 = 1 then (if t231 = true then (if t230 = 1 then (if t237 = true then (none) else (if t244 = 7 then (if t243 = 1 then (if t250 = 10 then (some (t249 == 1)) else (none)) else (none)) else (none))) else (none)) else (none)) else (none)) else (none)) else (none)) else (none)) else (none)) else (none)) else (none)) else (none)) else (none))) else (none))) = some r := by first | (rw [hy254]; with_reducible exact H) | (have H2_ := (Option.bind_some _ _).symm.trans H; rw [hy254]; with_reducible exact H2_) | (have H2_ := (Option.bind_some _ _).symm.trans H; with_reducible exact H2_) | with_reducible exact H | (rw [hy254]; exact H) | exact H
              have Ny254 := Aside0.mk hy254
              clear hy254
              obtain ⟨y257, hy257⟩ : ∃ y_ : List (List (S46)), y_ = (([y251, y254] : List (List (S46)))) := ⟨_, rfl⟩
              replace H : ((manciplelaw5_same.f kj5 t201 y257).bind fun t260 => (if t260 = true then ((stanza_Print.f t201).bind fun t261 => (if t261.toList = ([65, 58, 32, 49, 10, 66, 58, 32, 10, 10, 65, 58, 32, 120, 32, 121, 10] : List UInt8) then (if t208 = 6 then (if t207 = 1 then (if t213 = 2 then (if t212 = 0 then (if t218 = 2 then (if t217 = 1 then (if t223 = 2 then (if t222 = 1 then (if t231 = true then (if t230 = 1 then (if t237 = true then (none) else (if t244 = 7 then (if t243 = 1 then (if t250 = 10 then (some (t249 == 1)) else (none)) else (none)) else (none))) else (none)) else (none)) else (none)) else (none)) else (none)) else (none)) else (none)) else (none)) else (none)) else (none)) else (none))) else (none))) = some r := by first | (rw [hy257]; with_reducible exact H) | (have H2_ := (Option.bind_some _ _).symm.trans H; rw [hy257]; with_reducible exact H2_) | (have H2_ := (Option.bind_some _ _).symm.trans H; with_reducible exact H2_) | with_reducible exact H | (rw [hy257]; exact H) | exact H
              have Ny257 := Aside0.mk hy257
              clear hy257
              replace H := Option.bind_eq_some_iff.mp H
              obtain ⟨t260, A240, H⟩ := H
              replace H : (if t260 = true then ((stanza_Print.f t201).bind fun t261 => (if t261.toList = ([65, 58, 32, 49, 10, 66, 58, 32, 10, 10, 65, 58, 32, 120, 32, 121, 10] : List UInt8) then (if t208 = 6 then (if t207 = 1 then (if t213 = 2 then (if t212 = 0 then (if t218 = 2 then (if t217 = 1 then (if t223 = 2 then (if t222 = 1 then (if t231 = true then (if t230 = 1 then (if t237 = true then (none) else (if t244 = 7 then (if t243 = 1 then (if t250 = 10 then (some (t249 == 1)) else (none)) else (none)) else (none))) else (none)) else (none)) else (none)) else (none)) else (none)) else (none)) else (none)) else (none)) else (none)) else (none)) else (none))) else (none)) = some r := H
              have A24 := Aside0.mk A240
              clear A240
              by_cases c25 : t260 = true
              · subst c25
                have H1 : ((stanza_Print.f t201).bind fun t261 => (if t261.toList = ([65, 58, 32, 49, 10, 66, 58, 32, 10, 10, 65, 58, 32, 120, 32, 121, 10] : List UInt8) then (if t208 = 6 then (if t207 = 1 then (if t213 = 2 then (if t212 = 0 then (if t218 = 2 then (if t217 = 1 then (if t223 = 2 then (if t222 = 1 then (if t231 = true then (if t230 = 1 then (if t237 = true then (none) else (if t244 = 7 then (if t243 = 1 then (if t250 = 10 then (some (t249 == 1)) else (none)) else (none)) else (none))) else (none)) else (none)) else (none)) else (none)) else (none)) else (none)) else (none)) else (none)) else (none)) else (none)) else (none))) = some r := by rw [if_pos rfl] at H; exact H
                clear H
                have H := H1
                clear H1
                replace H := Option.bind_eq_some_iff.mp H
                obtain ⟨t261, A260, H⟩ := H
                replace H : (if t261.toList = ([65, 58, 32, 49, 10, 66, 58, 32, 10, 10, 65, 58, 32, 120, 32, 121, 10] : List UInt8) then (if t208 = 6 then (if t207 = 1 then (if t213 = 2 then (if t212 = 0 then (if t218 = 2 then (if t217 = 1 then (if t223 = 2 then (if t222 = 1 then (if t231 = true then (if t230 = 1 then (if t237 = true then (none) else (if t244 = 7 then (if t243 = 1 then (if t250 = 10 then (some (t249 == 1)) else (none)) else (none)) else (none))) else (none)) else (none)) else (none)) else (none)) else (none)) else (none)) else (none)) else (none)) else (none)) else (none)) else (none)) = some r := H
                have A26 := Aside0.mk A260
                clear A260
                by_cases c27 : t261.toList = ([65, 58, 32, 49, 10, 66, 58, 32, 10, 10, 65, 58, 32, 120, 32, 121, 10] : List UInt8)
                · rw [if_pos c27] at H
                  have c27b0 : (t261.toList == ([65, 58, 32, 49, 10, 66, 58, 32, 10, 10, 65, 58, 32, 120, 32, 121, 10] : List UInt8)) = true := beq_iff_eq.mpr c27
                  have c27b1 : (t261.toList != ([65, 58, 32, 49, 10, 66, 58, 32, 10, 10, 65, 58, 32, 120, 32, 121, 10] : List UInt8)) = false := bne_eq_false_iff_eq.mpr c27
                  clear c27
                  by_cases c28 : t208 = 6
                  · rw [if_pos c28] at H
                    have c28b0 : (t208 == 6) = true := beq_iff_eq.mpr c28
                    have c28b1 : (t208 != 6) = false := bne_eq_false_iff_eq.mpr c28
                    clear c28
                    by_cases c29 : t207 = 1
                    · rw [if_pos c29] at H
                      have c29b0 : (t207 == 1) = true := beq_iff_eq.mpr c29
                      have c29b1 : (t207 != 1) = false := bne_eq_false_iff_eq.mpr c29
                      clear c29
                      by_cases c30 : t213 = 2
                      · rw [if_pos c30] at H
                        have c30b0 : (t213 == 2) = true := beq_iff_eq.mpr c30
                        have c30b1 : (t213 != 2) = false := bne_eq_false_iff_eq.mpr c30
                        clear c30
                        by_cases c31 : t212 = 0
                        · rw [if_pos c31] at H
                          have c31b0 : (t212 == 0) = true := beq_iff_eq.mpr c31
                          have c31b1 : (t212 != 0) = false := bne_eq_false_iff_eq.mpr c31
                          clear c31
                          by_cases c32 : t218 = 2
                          · rw [if_pos c32] at H
                            have c32b0 : (t218 == 2) = true := beq_iff_eq.mpr c32
                            have c32b1 : (t218 != 2) = false := bne_eq_false_iff_eq.mpr c32
                            clear c32
                            by_cases c33 : t217 = 1
                            · rw [if_pos c33] at H
                              have c33b0 : (t217 == 1) = true := beq_iff_eq.mpr c33
                              have c33b1 : (t217 != 1) = false := bne_eq_false_iff_eq.mpr c33
                              clear c33
                              by_cases c34 : t223 = 2
                              · rw [if_pos c34] at H
                                have c34b0 : (t223 == 2) = true := beq_iff_eq.mpr c34
                                have c34b1 : (t223 != 2) = false := bne_eq_false_iff_eq.mpr c34
                                clear c34
                                by_cases c35 : t222 = 1
                                · rw [if_pos c35] at H
                                  have c35b0 : (t222 == 1) = true := beq_iff_eq.mpr c35
                                  have c35b1 : (t222 != 1) = false := bne_eq_false_iff_eq.mpr c35
                                  clear c35
                                  by_cases c36 : t231 = true
                                  · subst c36
                                    have H1 : (if t230 = 1 then (if t237 = true then (none) else (if t244 = 7 then (if t243 = 1 then (if t250 = 10 then (some (t249 == 1)) else (none)) else (none)) else (none))) else (none)) = some r := by rw [if_pos rfl] at H; exact H
                                    clear H
                                    have H := H1
                                    clear H1
                                    by_cases c37 : t230 = 1
                                    · rw [if_pos c37] at H
                                      have c37b0 : (t230 == 1) = true := beq_iff_eq.mpr c37
                                      have c37b1 : (t230 != 1) = false := bne_eq_false_iff_eq.mpr c37
                                      clear c37
                                      by_cases c38 : t237 = true
                                      · subst c38
                                        have H1 : (none) = some r := by rw [if_pos rfl] at H; exact H
                                        clear H
                                        have H := H1
                                        clear H1
                                        exact absurd H (by simp)
                                      · replace c38 := Bool.eq_false_iff.mpr c38
                                        subst c38
                                        have H1 : (if t244 = 7 then (if t243 = 1 then (if t250 = 10 then (some (t249 == 1)) else (none)) else (none)) else (none)) = some r := by rw [if_neg (show ¬ (false = true) by decide)] at H; exact H
                                        clear H
                                        have H := H1
                                        clear H1
                                        by_cases c39 : t244 = 7
                                        · rw [if_pos c39] at H
                                          have c39b0 : (t244 == 7) = true := beq_iff_eq.mpr c39
                                          have c39b1 : (t244 != 7) = false := bne_eq_false_iff_eq.mpr c39
                                          clear c39
                                          by_cases c40 : t243 = 1
                                          · rw [if_pos c40] at H
                                            have c40b0 : (t243 == 1) = true := beq_iff_eq.mpr c40
                                            have c40b1 : (t243 != 1) = false := bne_eq_false_iff_eq.mpr c40
                                            clear c40
                                            by_cases c41 : t250 = 10
                                            · rw [if_pos c41] at H
                                              have c41b0 : (t250 == 10) = true := beq_iff_eq.mpr c41
                                              have c41b1 : (t250 != 10) = false := bne_eq_false_iff_eq.mpr c41
                                              clear c41
                                              obtain rfl := Option.some.inj H
                                              obtain ⟨Ao42, co42, eo42⟩ := Kd.N_slice HO_1.out
                                              subst eo42
                                              have p227 : 0 ≤ (0 : Int) := (by omega)
                                              have q227 : 0 < (t201.length : Int) := of_decide_eq_true (by first | (with_reducible assumption) | assumption)
                                              obtain ⟨ad227, A227_0, c227_0, e227, hx227_0, hl227_0, hi227_0⟩ := at_L3 (Kd.N_reads' HO_1.out).2.2 0 p227 q227
                                              cases e227
                                              obtain ⟨ce227, hce227, hMe227, hcc227⟩ := Kd.N_get HO_1.out [] 0 p227 (by first | exact q227 | exact of_decide_eq_true (by first | (with_reducible assumption) | assumption) | (have e_ := (Kd.N_reads' HO_1.out).1; omega))
                                              obtain ⟨ua227_0, uc227_0, rfl, ul227_0, ge227_0⟩ := Kd.FK_slice_open hMe227
                                              have hv227_0 := hcc227 0 _ rfl
                                              rw [Nat.add_zero, show ((Kd.slice 43 k43)).sz = 1 from rfl, Nat.mul_one] at hv227_0
                                              replace hv227_0 := Option.some.inj (hv227_0.symm.trans hx227_0)
                                              injection hv227_0 with hva_ hvn_ hvc_
                                              rw [hva_] at ge227_0
                                              rw [hvc_] at ul227_0
                                              have HL227_0 := Aside0.mk (show Kd.V k43 43 _ w.heap.size _ _ (rd_L3 t201 0) from Kd.V_mk ul227_0 ge227_0)
                                              clear hva_ hvn_ hvc_ ge227_0 ul227_0
                                              clear hcc227 hce227
                                              have qi227 : (0 < t201.length) = True := eq_true (by omega)
                                              (try rw [show ((0 : Int)).toNat = 0 from rfl] at hx227_0)
                                              (try rw [Addr.add_zero'] at hx227_0)
                                              have HR227_0 := Aside0.mk hi227_0
                                              have HC227_0 := Aside0.mk hl227_0
                                              clear hi227_0 hl227_0
                                              replace p227 := eq_true p227
                                              replace q227 := eq_true q227
                                              go_wp2_with (first | ((with_reducible refine gate_callee (f := 15) rfl ?_); refine goesL_ (some 63) rfl rfl Tryd.func15 (by kernel_rfl) rfl #[.slice A227_0 (rd_L3 t201 0).length c227_0, .string (⟨#[66]⟩ : ByteArray)] rfl (by (try simp only [List.map_toArray, List.map_cons, List.map_nil]); first | done | rfl | (simp only [List.length_drop, List.length_take]; rfl)) ?_; (with_reducible refine (stanza_Get.calls _ _ (rd_L3 t201 0) (⟨#[66]⟩ : ByteArray) t228 t229 t230 true _ ?side1 ?side2 A18.out).mono ?_); (case side1 => repeat (first | exact (by repeat (first | (with_reducible exact HR227_0.out) | (with_reducible refine Kd.C_alloc ?_ _) | (with_reducible refine Kd.C_drewN ?_ _) | (with_reducible refine Kd.C_drew ?_) | exact HR227_0.out)) | (with_reducible refine Kd.C_alloc ?_ _) | (with_reducible refine Kd.C_drewN ?_ _) | (with_reducible refine Kd.C_drew ?_))); (case side2 => exact HC227_0.out); rintro e w43 ⟨rfl, hb⟩; refine ⟨_, rfl, ?_⟩; have n0_ := Aside0.mk (Kd.N_below (by (with_reducible repeat (first | apply Kd.N_alloc | apply Kd.N_drewN | apply Kd.N_drew)); exact HO_1.out) hb); have n1_ := Aside0.mk (Kd.V_below (by (with_reducible repeat (first | apply Kd.V_alloc | apply Kd.V_drewN | apply Kd.V_drew)); exact HL227_0.out) hb); have n2_ := Aside0.mk (Kd.C_below (by repeat (first | (with_reducible exact HR227_0.out) | (with_reducible refine Kd.C_alloc ?_ _) | (with_reducible refine Kd.C_drewN ?_ _) | (with_reducible refine Kd.C_drew ?_) | exact HR227_0.out)) hb); have n3_ := Aside0.mk (below_step (by repeat (first | (with_reducible first | exact HB.out | apply below_alloc | apply pw_below_drewN | apply below_drew1) | exact HB.out)) hb); clear HO_1; clear HL227_0; clear HR227_0; clear HB; have HO_1 := n0_; have HL227_0 := n1_; have HR227_0 := n2_; have HB := n3_; clear n0_ n1_ n2_ n3_; (try clear hb); (try clear hb2); (try clear hk); (try clear hi)) | ((with_reducible refine gate_dst (N := 16) rfl ?_); (try (refine gate_guard (by rfl) ?_; dsimp only)); refine box_event ?hg (N := 16) ?hd (cs := #[.string (⟨#[]⟩ : ByteArray), .string (⟨#[]⟩ : ByteArray), .int .i64 0]) (t := 43) ?hr ?_; (case hd => rfl); (case hg => rfl); (case hr => first | (go_simp; done) | (go_simp; rfl)); intro gb232 hg w44 hbox hb; have n0_ := Aside0.mk (Kd.N_below (Kd.N_elderB (by (with_reducible repeat (first | apply Kd.N_alloc | apply Kd.N_drewN | apply Kd.N_drew)); exact HO_1.out) gb232 (Nat.le_of_eq hg.symm)) hb); have n1_ := Aside0.mk (Kd.V_below (Kd.V_elderB (by (with_reducible repeat (first | apply Kd.V_alloc | apply Kd.V_drewN | apply Kd.V_drew)); exact HL227_0.out) gb232 (Nat.le_of_eq hg.symm)) hb); have n2_ := Aside0.mk (Kd.C_below (by repeat (first | (with_reducible exact HR227_0.out) | (with_reducible refine Kd.C_alloc ?_ _) | (with_reducible refine Kd.C_drewN ?_ _) | (with_reducible refine Kd.C_drew ?_) | exact HR227_0.out)) hb); have n3_ := Aside0.mk (below_step (by repeat (first | (with_reducible first | exact HB.out | apply below_alloc | apply pw_below_drewN | apply below_drew1) | exact HB.out)) hb); have n4_ := Aside0.mk (hbox); have n5_ := Aside0.mk ((by rw [hg]; exact (below_size (by repeat (first | (with_reducible first | exact HB.out | apply below_alloc | apply pw_below_drewN | apply below_drew1) | exact HB.out))) : w.heap.size ≤ gb232)); have n6_ := Aside0.mk ((by rw [hg]; exact (below_size (by repeat (first | (with_reducible first | exact HB.out | apply below_alloc | apply pw_below_drewN | apply below_drew1) | exact HB.out))) : w.heap.size ≤ gb232)); clear HO_1; clear HL227_0; clear HR227_0; clear HB; have HO_1 := n0_; have HL227_0 := n1_; have HR227_0 := n2_; have HB := n3_; have BK232 := n4_; have GW232 := n5_; have GE232 := n6_; clear n0_ n1_ n2_ n3_ n4_ n5_ n6_; clear hb hbox hg; have hcz45_0 : w44.cell? ⟨gb232, 0, none⟩ = some (.string (⟨#[]⟩ : ByteArray)) := (blk_cell BK232.out 0).trans rfl; have hcz45_1 : w44.cell? ⟨gb232, 1, none⟩ = some (.string (⟨#[]⟩ : ByteArray)) := (blk_cell BK232.out 1).trans rfl; have hcz45_2 : w44.cell? ⟨gb232, 2, none⟩ = some (.int .i64 0) := (blk_cell BK232.out 2).trans rfl; have hfz45_0 := blk_frozen BK232.out 0; have hfz45_1 := blk_frozen BK232.out 1; have hfz45_2 := blk_frozen BK232.out 2) | ((with_reducible refine gate_store (t := 43) (p := 16) rfl ?_); refine store_event (t := 43) (p := 16) (v := ?vo_w46) (w1 := (((w44.setCell ⟨gb232, 0, none⟩ (.string t228)).setCell ⟨gb232, 1, none⟩ (.string t229)).setCell ⟨gb232, 2, none⟩ (.int .i64 t230))) ?hg ?ho ?hn ?hr ?_; (case ho => rfl); (case hg => rfl); (case hn => rfl); (case hr => first | (go_simp; done) | (go_simp; rfl)); intro w46 hw; have n0_ : Aside0 (Kd.N (Kd.slice 43 k43) 38 w46 w.heap.size (fun k_ => k_ ≠ gb232) (.slice (some ad227) t201.length co42) t201) := ⟨(by rw [hw]; exact (by (with_reducible repeat (first | apply Kd.N_alloc | apply Kd.N_drewN | apply Kd.N_drew)); exact Kd.N_mono (Kd.N_far (p := ⟨gb232, 2, none⟩) (Kd.N_far (p := ⟨gb232, 1, none⟩) (Kd.N_far (p := ⟨gb232, 0, none⟩) (Kd.N_mono HO_1.out (fun k_ hk => (⟨hk, hk.2⟩ : _ ∧ k_ ≠ gb232))) (fun _ hk => hk.2) (.string t228)) (fun _ hk => hk.2) (.string t229)) (fun _ hk => hk.2) (.int .i64 t230)) (fun _ hk => hk.1.2)))⟩; have n1_ : Aside0 (Kd.V k43 43 w46 w.heap.size (fun k_ => some k_ ≠ (.slice (some ad227) t201.length co42 : Value).ownBlock ∧ k_ ≠ gb232) (.slice A227_0 (rd_L3 t201 0).length c227_0) (rd_L3 t201 0)) := ⟨(by rw [hw]; exact (by (with_reducible repeat (first | apply Kd.V_alloc | apply Kd.V_drewN | apply Kd.V_drew)); exact Kd.V_mono (Kd.V_far (p := ⟨gb232, 2, none⟩) (Kd.V_far (p := ⟨gb232, 1, none⟩) (Kd.V_far (p := ⟨gb232, 0, none⟩) (Kd.V_mono HL227_0.out (fun k_ hk => (⟨hk, hk.2⟩ : _ ∧ k_ ≠ gb232))) (fun _ hk => hk.2) (.string t228)) (fun _ hk => hk.2) (.string t229)) (fun _ hk => hk.2) (.int .i64 t230)) (fun _ hk => ⟨hk.1.1.2, hk.1.2⟩)))⟩; have n2_ : Aside0 (w46.heap[gb232]? = some (.cells #[.string t228, .string t229, .int .i64 t230] 43 (0, 0))) := ⟨(by rw [hw]; exact (by (with_reducible repeat (first | refine blk_drewN ?_ _ | refine blk_drew ?_ | refine blk_alloc ?_ _)); refine blk_put (cs := #[.string t228, .string t229, .int .i64 0]) ?_ 2 _ rfl; (with_reducible repeat (first | refine blk_drewN ?_ _ | refine blk_drew ?_ | refine blk_alloc ?_ _)); refine blk_put (cs := #[.string t228, .string (⟨#[]⟩ : ByteArray), .int .i64 0]) ?_ 1 _ rfl; (with_reducible repeat (first | refine blk_drewN ?_ _ | refine blk_drew ?_ | refine blk_alloc ?_ _)); refine blk_put (cs := #[.string (⟨#[]⟩ : ByteArray), .string (⟨#[]⟩ : ByteArray), .int .i64 0]) ?_ 0 _ rfl; (with_reducible repeat (first | refine blk_drewN ?_ _ | refine blk_drew ?_ | refine blk_alloc ?_ _)); exact BK232.out))⟩; have n3_ : Aside0 (Below w.heap.size w w46) := ⟨(by rw [hw]; exact (by repeat (first | (with_reducible first | exact HB.out | apply below_alloc | apply pw_below_drewN | apply below_drew1 | refine below_set ?_ GE232.out) | exact HB.out)))⟩; clear hw; clear HO_1; clear HL227_0; clear BK232; clear HB; have HO_1 := n0_; have HL227_0 := n1_; have BK232 := n2_; have HB := n3_; clear n0_ n1_ n2_ n3_; have p233 : 0 ≤ (1 : Int) := (by omega); have q233 : 1 < (t201.length : Int) := of_decide_eq_true (by first | (with_reducible assumption) | assumption); obtain ⟨ad233, A233_0, c233_0, e233, hx233_0, hl233_0, hi233_0⟩ := at_L3 (Kd.N_reads' HO_1.out).2.2 1 p233 q233; obtain rfl : ad227 = ad233 := (by injection e233); obtain ⟨ce233, hce233, hMe233, hcc233⟩ := Kd.N_get HO_1.out [] 1 p233 (by first | exact q233 | exact of_decide_eq_true (by first | (with_reducible assumption) | assumption) | (have e_ := (Kd.N_reads' HO_1.out).1; omega)); obtain ⟨ua233_0, uc233_0, rfl, ul233_0, ge233_0⟩ := Kd.FK_slice_open hMe233; have hv233_0 := hcc233 0 _ rfl; rw [Nat.add_zero, show ((Kd.slice 43 k43)).sz = 1 from rfl, Nat.mul_one] at hv233_0; replace hv233_0 := Option.some.inj (hv233_0.symm.trans hx233_0); injection hv233_0 with hva_ hvn_ hvc_; rw [hva_] at ge233_0; rw [hvc_] at ul233_0; have HL233_0 := Aside0.mk (show Kd.V k43 43 _ w.heap.size _ _ (rd_L3 t201 1) from Kd.V_mk ul233_0 ge233_0); clear hva_ hvn_ hvc_ ge233_0 ul233_0; clear hcc233 hce233; (try simp only [show (1 : Int).toNat = 1 from rfl, Nat.reduceMul, Nat.reduceEqDiff, Go.Addr.add, ↓reduceIte] at hx233_0); have qi233 : (1 < t201.length) = True := eq_true (by omega); (try rw [show ((1 : Int)).toNat = 1 from rfl] at hx233_0); have HR233_0 := Aside0.mk hi233_0; have HC233_0 := Aside0.mk hl233_0; clear hi233_0 hl233_0; replace p233 := eq_true p233; replace q233 := eq_true q233) | ((with_reducible refine gate_callee (f := 15) rfl ?_); refine goesL_ (some 70) rfl rfl Tryd.func15 (by kernel_rfl) rfl #[.slice A233_0 (rd_L3 t201 1).length c233_0, .string (⟨#[66]⟩ : ByteArray)] rfl (by (try simp only [List.map_toArray, List.map_cons, List.map_nil]); first | done | rfl | (simp only [List.length_drop, List.length_take]; rfl)) ?_; (with_reducible refine (stanza_Get.calls _ _ (rd_L3 t201 1) (⟨#[66]⟩ : ByteArray) t234 t235 t236 false _ ?side1 ?side2 A20.out).mono ?_); (case side1 => repeat (first | exact (by repeat (first | (with_reducible exact HR233_0.out) | (with_reducible refine Kd.C_alloc ?_ _) | (with_reducible refine Kd.C_drewN ?_ _) | (with_reducible refine Kd.C_drew ?_) | exact HR233_0.out)) | (with_reducible refine Kd.C_alloc ?_ _) | (with_reducible refine Kd.C_drewN ?_ _) | (with_reducible refine Kd.C_drew ?_))); (case side2 => exact HC233_0.out); rintro e w47 ⟨rfl, hb⟩; refine ⟨_, rfl, ?_⟩; have n0_ := Aside0.mk (Kd.N_below (by (with_reducible repeat (first | apply Kd.N_alloc | apply Kd.N_drewN | apply Kd.N_drew)); exact HO_1.out) hb); have n1_ := Aside0.mk (Kd.V_below (by (with_reducible repeat (first | apply Kd.V_alloc | apply Kd.V_drewN | apply Kd.V_drew)); exact HL227_0.out) hb); have n2_ := Aside0.mk (Kd.V_below (by (with_reducible repeat (first | apply Kd.V_alloc | apply Kd.V_drewN | apply Kd.V_drew)); exact HL233_0.out) hb); have n3_ := Aside0.mk (blk_below (g := gb232) (o := .cells #[.string t228, .string t229, .int .i64 t230] 43 (0, 0)) (by (with_reducible repeat (first | refine blk_drewN ?_ _ | refine blk_drew ?_ | refine blk_alloc ?_ _)); exact BK232.out) hb); have n4_ := Aside0.mk (Kd.C_below (by repeat (first | (with_reducible exact HR233_0.out) | (with_reducible refine Kd.C_alloc ?_ _) | (with_reducible refine Kd.C_drewN ?_ _) | (with_reducible refine Kd.C_drew ?_) | exact HR233_0.out)) hb); have n5_ := Aside0.mk (below_step (by repeat (first | (with_reducible first | exact HB.out | apply below_alloc | apply pw_below_drewN | apply below_drew1 | refine below_set ?_ GE232.out) | exact HB.out)) hb); clear HO_1; clear HL227_0; clear HL233_0; clear BK232; clear HR233_0; clear HB; have HO_1 := n0_; have HL227_0 := n1_; have HL233_0 := n2_; have BK232 := n3_; have HR233_0 := n4_; have HB := n5_; clear n0_ n1_ n2_ n3_ n4_ n5_; (try clear hb); (try clear hb2); (try clear hk); (try clear hi)) | ((with_reducible refine gate_dst (N := 18) rfl ?_); (try (refine gate_guard (by rfl) ?_; dsimp only)); refine box_event ?hg (N := 18) ?hd (cs := #[.string (⟨#[]⟩ : ByteArray), .string (⟨#[]⟩ : ByteArray), .int .i64 0]) (t := 43) ?hr ?_; (case hd => rfl); (case hg => rfl); (case hr => first | (go_simp; done) | (go_simp; rfl)); intro gb238 hg w48 hbox hb; have n0_ := Aside0.mk (Kd.N_below (Kd.N_elderB (by (with_reducible repeat (first | apply Kd.N_alloc | apply Kd.N_drewN | apply Kd.N_drew)); exact HO_1.out) gb238 (Nat.le_of_eq hg.symm)) hb); have n1_ := Aside0.mk (Kd.V_below (Kd.V_elderB (by (with_reducible repeat (first | apply Kd.V_alloc | apply Kd.V_drewN | apply Kd.V_drew)); exact HL227_0.out) gb238 (Nat.le_of_eq hg.symm)) hb); have n2_ := Aside0.mk (Kd.V_below (Kd.V_elderB (by (with_reducible repeat (first | apply Kd.V_alloc | apply Kd.V_drewN | apply Kd.V_drew)); exact HL233_0.out) gb238 (Nat.le_of_eq hg.symm)) hb); have n3_ := Aside0.mk (blk_below (g := gb232) (o := .cells #[.string t228, .string t229, .int .i64 t230] 43 (0, 0)) (by (with_reducible repeat (first | refine blk_drewN ?_ _ | refine blk_drew ?_ | refine blk_alloc ?_ _)); exact BK232.out) hb); have n4_ := Aside0.mk (Kd.C_below (by repeat (first | (with_reducible exact HR233_0.out) | (with_reducible refine Kd.C_alloc ?_ _) | (with_reducible refine Kd.C_drewN ?_ _) | (with_reducible refine Kd.C_drew ?_) | exact HR233_0.out)) hb); have n5_ := Aside0.mk (below_step (by repeat (first | (with_reducible first | exact HB.out | apply below_alloc | apply pw_below_drewN | apply below_drew1 | refine below_set ?_ GE232.out) | exact HB.out)) hb); have n6_ := Aside0.mk (hbox); have n7_ := Aside0.mk ((by rw [hg]; exact (below_size (by repeat (first | (with_reducible first | exact HB.out | apply below_alloc | apply pw_below_drewN | apply below_drew1 | refine below_set ?_ GE232.out) | exact HB.out))) : w.heap.size ≤ gb238)); have n8_ := Aside0.mk ((by rw [hg]; exact (below_size (by repeat (first | (with_reducible first | exact HB.out | apply below_alloc | apply pw_below_drewN | apply below_drew1 | refine below_set ?_ GE232.out) | exact HB.out))) : w.heap.size ≤ gb238)); have n9_ := Aside0.mk ((by rw [hg]; exact Nat.ne_of_lt (blk_lt (g := gb232) (o := .cells #[.string t228, .string t229, .int .i64 t230] 43 (0, 0)) (by (with_reducible repeat (first | refine blk_drewN ?_ _ | refine blk_drew ?_ | refine blk_alloc ?_ _)); exact BK232.out)) : gb232 ≠ gb238)); have n10_ := Aside0.mk ((by rw [hg]; exact Nat.ne_of_gt (blk_lt (g := gb232) (o := .cells #[.string t228, .string t229, .int .i64 t230] 43 (0, 0)) (by (with_reducible repeat (first | refine blk_drewN ?_ _ | refine blk_drew ?_ | refine blk_alloc ?_ _)); exact BK232.out)) : gb238 ≠ gb232)); clear HO_1; clear HL227_0; clear HL233_0; clear BK232; clear HR233_0; clear HB; have HO_1 := n0_; have HL227_0 := n1_; have HL233_0 := n2_; have BK232 := n3_; have HR233_0 := n4_; have HB := n5_; have BK238 := n6_; have GW238 := n7_; have GE238 := n8_; have NB232_238 := n9_; have NB238_232 := n10_; clear n0_ n1_ n2_ n3_ n4_ n5_ n6_ n7_ n8_ n9_ n10_; clear hb hbox hg; have hnb49 := NB238_232.out; have hnc49 := NB232_238.out; have hcz50_0 : w48.cell? ⟨gb238, 0, none⟩ = some (.string (⟨#[]⟩ : ByteArray)) := (blk_cell BK238.out 0).trans rfl; have hcz50_1 : w48.cell? ⟨gb238, 1, none⟩ = some (.string (⟨#[]⟩ : ByteArray)) := (blk_cell BK238.out 1).trans rfl; have hcz50_2 : w48.cell? ⟨gb238, 2, none⟩ = some (.int .i64 0) := (blk_cell BK238.out 2).trans rfl; have hfz50_0 := blk_frozen BK238.out 0; have hfz50_1 := blk_frozen BK238.out 1; have hfz50_2 := blk_frozen BK238.out 2) | ((with_reducible refine gate_store (t := 43) (p := 18) rfl ?_); refine store_event (t := 43) (p := 18) (v := ?vo_w51) (w1 := (((w48.setCell ⟨gb238, 0, none⟩ (.string t234)).setCell ⟨gb238, 1, none⟩ (.string t235)).setCell ⟨gb238, 2, none⟩ (.int .i64 t236))) ?hg ?ho ?hn ?hr ?_; (case ho => rfl); (case hg => rfl); (case hn => rfl); (case hr => first | (go_simp; done) | (go_simp; rfl)); intro w51 hw; have n0_ : Aside0 (Kd.N (Kd.slice 43 k43) 38 w51 w.heap.size (fun k_ => k_ ≠ gb232 ∧ k_ ≠ gb238) (.slice (some ad227) t201.length co42) t201) := ⟨(by rw [hw]; exact (by (with_reducible repeat (first | apply Kd.N_alloc | apply Kd.N_drewN | apply Kd.N_drew)); exact Kd.N_mono (Kd.N_far (p := ⟨gb238, 2, none⟩) (Kd.N_far (p := ⟨gb238, 1, none⟩) (Kd.N_far (p := ⟨gb238, 0, none⟩) (Kd.N_mono HO_1.out (fun k_ hk => (⟨hk, hk.2⟩ : _ ∧ k_ ≠ gb238))) (fun _ hk => hk.2) (.string t234)) (fun _ hk => hk.2) (.string t235)) (fun _ hk => hk.2) (.int .i64 t236)) (fun _ hk => ⟨hk.1.1, hk.1.2⟩)))⟩; have n1_ : Aside0 (Kd.V k43 43 w51 w.heap.size (fun k_ => some k_ ≠ (.slice (some ad227) t201.length co42 : Value).ownBlock ∧ k_ ≠ gb232 ∧ k_ ≠ gb238) (.slice A227_0 (rd_L3 t201 0).length c227_0) (rd_L3 t201 0)) := ⟨(by rw [hw]; exact (by (with_reducible repeat (first | apply Kd.V_alloc | apply Kd.V_drewN | apply Kd.V_drew)); exact Kd.V_mono (Kd.V_far (p := ⟨gb238, 2, none⟩) (Kd.V_far (p := ⟨gb238, 1, none⟩) (Kd.V_far (p := ⟨gb238, 0, none⟩) (Kd.V_mono HL227_0.out (fun k_ hk => (⟨hk, hk.2⟩ : _ ∧ k_ ≠ gb238))) (fun _ hk => hk.2) (.string t234)) (fun _ hk => hk.2) (.string t235)) (fun _ hk => hk.2) (.int .i64 t236)) (fun _ hk => ⟨hk.1.1.1, ⟨hk.1.1.2, hk.1.2⟩⟩)))⟩; have n2_ : Aside0 (Kd.V k43 43 w51 w.heap.size (fun k_ => some k_ ≠ (.slice (some ad227) t201.length co42 : Value).ownBlock ∧ k_ ≠ gb232 ∧ k_ ≠ gb238) (.slice A233_0 (rd_L3 t201 1).length c233_0) (rd_L3 t201 1)) := ⟨(by rw [hw]; exact (by (with_reducible repeat (first | apply Kd.V_alloc | apply Kd.V_drewN | apply Kd.V_drew)); exact Kd.V_mono (Kd.V_far (p := ⟨gb238, 2, none⟩) (Kd.V_far (p := ⟨gb238, 1, none⟩) (Kd.V_far (p := ⟨gb238, 0, none⟩) (Kd.V_mono HL233_0.out (fun k_ hk => (⟨hk, hk.2⟩ : _ ∧ k_ ≠ gb238))) (fun _ hk => hk.2) (.string t234)) (fun _ hk => hk.2) (.string t235)) (fun _ hk => hk.2) (.int .i64 t236)) (fun _ hk => ⟨hk.1.1.2, ⟨hk.1.1.1, hk.1.2⟩⟩)))⟩; have n3_ : Aside0 (w51.heap[gb232]? = some (.cells #[.string t228, .string t229, .int .i64 t230] 43 (0, 0))) := ⟨(by rw [hw]; exact (by (with_reducible repeat (first | refine blk_drewN ?_ _ | refine blk_drew ?_ | refine blk_alloc ?_ _)); refine blk_far ?_ NB232_238.out _; (with_reducible repeat (first | refine blk_drewN ?_ _ | refine blk_drew ?_ | refine blk_alloc ?_ _)); refine blk_far ?_ NB232_238.out _; (with_reducible repeat (first | refine blk_drewN ?_ _ | refine blk_drew ?_ | refine blk_alloc ?_ _)); refine blk_far ?_ NB232_238.out _; (with_reducible repeat (first | refine blk_drewN ?_ _ | refine blk_drew ?_ | refine blk_alloc ?_ _)); exact BK232.out))⟩; have n4_ : Aside0 (w51.heap[gb238]? = some (.cells #[.string t234, .string t235, .int .i64 t236] 43 (0, 0))) := ⟨(by rw [hw]; exact (by (with_reducible repeat (first | refine blk_drewN ?_ _ | refine blk_drew ?_ | refine blk_alloc ?_ _)); refine blk_put (cs := #[.string t234, .string t235, .int .i64 0]) ?_ 2 _ rfl; (with_reducible repeat (first | refine blk_drewN ?_ _ | refine blk_drew ?_ | refine blk_alloc ?_ _)); refine blk_put (cs := #[.string t234, .string (⟨#[]⟩ : ByteArray), .int .i64 0]) ?_ 1 _ rfl; (with_reducible repeat (first | refine blk_drewN ?_ _ | refine blk_drew ?_ | refine blk_alloc ?_ _)); refine blk_put (cs := #[.string (⟨#[]⟩ : ByteArray), .string (⟨#[]⟩ : ByteArray), .int .i64 0]) ?_ 0 _ rfl; (with_reducible repeat (first | refine blk_drewN ?_ _ | refine blk_drew ?_ | refine blk_alloc ?_ _)); exact BK238.out))⟩; have n5_ : Aside0 (Below w.heap.size w w51) := ⟨(by rw [hw]; exact (by repeat (first | (with_reducible first | exact HB.out | apply below_alloc | apply pw_below_drewN | apply below_drew1 | refine below_set ?_ GE232.out | refine below_set ?_ GE238.out) | exact HB.out)))⟩; clear hw; clear HO_1; clear HL227_0; clear HL233_0; clear BK232; clear BK238; clear HB; have HO_1 := n0_; have HL227_0 := n1_; have HL233_0 := n2_; have BK232 := n3_; have BK238 := n4_; have HB := n5_; clear n0_ n1_ n2_ n3_ n4_ n5_; have p239 : 0 ≤ (0 : Int) := (by omega); have q239 : 0 < (t201.length : Int) := of_decide_eq_true (by first | (with_reducible assumption) | assumption); obtain ⟨ad239, A239_0, c239_0, e239, hx239_0, hl239_0, hi239_0⟩ := at_L3 (Kd.N_reads' HO_1.out).2.2 0 p239 q239; obtain rfl : ad227 = ad239 := (by injection e239); obtain ⟨ce239, hce239, hMe239, hcc239⟩ := Kd.N_get HO_1.out [] 0 p239 (by first | exact q239 | exact of_decide_eq_true (by first | (with_reducible assumption) | assumption) | (have e_ := (Kd.N_reads' HO_1.out).1; omega)); obtain ⟨ua239_0, uc239_0, rfl, ul239_0, ge239_0⟩ := Kd.FK_slice_open hMe239; have hv239_0 := hcc239 0 _ rfl; rw [Nat.add_zero, show ((Kd.slice 43 k43)).sz = 1 from rfl, Nat.mul_one] at hv239_0; replace hv239_0 := Option.some.inj (hv239_0.symm.trans hx239_0); injection hv239_0 with hva_ hvn_ hvc_; rw [hva_] at ge239_0; rw [hvc_] at ul239_0; have HL239_0 := Aside0.mk (show Kd.V k43 43 _ w.heap.size _ _ (rd_L3 t201 0) from Kd.V_mk ul239_0 ge239_0); clear hva_ hvn_ hvc_ ge239_0 ul239_0; clear hcc239 hce239; have qi239 : (0 < t201.length) = True := eq_true (by omega); (try rw [show ((0 : Int)).toNat = 0 from rfl] at hx239_0); (try rw [Addr.add_zero'] at hx239_0); have HR239_0 := Aside0.mk hi239_0; have HC239_0 := Aside0.mk hl239_0; clear hi239_0 hl239_0; replace p239 := eq_true p239; replace q239 := eq_true q239) | ((with_reducible refine gate_dst (N := 77) rfl ?_); (try (refine gate_guard (by rfl) ?_; dsimp only)); refine Kd.R_lit Kd.string _ 9 ?hg (N := 77) ?hd (xs := ([(⟨#[66]⟩ : ByteArray), (⟨#[65]⟩ : ByteArray)] : List ByteArray)) (inner := [.string (⟨#[66]⟩ : ByteArray), .string (⟨#[65]⟩ : ByteArray)]) (ok := fun _ => True) (okp := fun _ => True) ?hr ?hp (fun _ hk => hk) trivial (Below.refl _ _) (Nat.le_refl _) (by simp) ?_; (case hd => rfl); (case hg => rfl); (case hr => first | (go_simp; done) | (go_simp; rfl)); (case hp => exact (Reps.one (show Kd.M Kd.string _ _ _ (⟨#[66]⟩ : ByteArray) [.string (⟨#[66]⟩ : ByteArray)] from rfl) (Reps.one (show Kd.M Kd.string _ _ _ (⟨#[65]⟩ : ByteArray) [.string (⟨#[65]⟩ : ByteArray)] from rfl) (Reps.none _ _)))); intro v241 w52 ho53 hb hg_ hnew_; clear hg_ hnew_; (first | rw [← Ny240.out] at ho53 | (simp only [Int.reduceToNat] at ho53; rw [← Ny240.out] at ho53)); have n0_ := Aside0.mk (Kd.N_elder' (by (with_reducible repeat (first | apply Kd.N_alloc | apply Kd.N_drewN | apply Kd.N_drew)); exact HO_1.out) (Kd.R_base ho53) hb); have n1_ := Aside0.mk (Kd.V_elder' (by (with_reducible repeat (first | apply Kd.V_alloc | apply Kd.V_drewN | apply Kd.V_drew)); exact HL227_0.out) (Kd.R_base ho53) hb); have n2_ := Aside0.mk (Kd.V_elder' (by (with_reducible repeat (first | apply Kd.V_alloc | apply Kd.V_drewN | apply Kd.V_drew)); exact HL233_0.out) (Kd.R_base ho53) hb); have n3_ := Aside0.mk (Kd.V_elder' (by (with_reducible repeat (first | apply Kd.V_alloc | apply Kd.V_drewN | apply Kd.V_drew)); exact HL239_0.out) (Kd.R_base ho53) hb); have n4_ := Aside0.mk (Kd.R_lower ho53 (below_size (by repeat (first | (with_reducible first | exact HB.out | apply below_alloc | apply pw_below_drewN | apply below_drew1 | refine below_set ?_ GE232.out | refine below_set ?_ GE238.out) | exact HB.out)))); have n5_ := Aside0.mk (blk_below (g := gb232) (o := .cells #[.string t228, .string t229, .int .i64 t230] 43 (0, 0)) (by (with_reducible repeat (first | refine blk_drewN ?_ _ | refine blk_drew ?_ | refine blk_alloc ?_ _)); exact BK232.out) hb); have n6_ := Aside0.mk (blk_below (g := gb238) (o := .cells #[.string t234, .string t235, .int .i64 t236] 43 (0, 0)) (by (with_reducible repeat (first | refine blk_drewN ?_ _ | refine blk_drew ?_ | refine blk_alloc ?_ _)); exact BK238.out) hb); have n7_ := Aside0.mk (Kd.C_below (by repeat (first | (with_reducible exact HR239_0.out) | (with_reducible refine Kd.C_alloc ?_ _) | (with_reducible refine Kd.C_drewN ?_ _) | (with_reducible refine Kd.C_drew ?_) | exact HR239_0.out)) hb); have n8_ := Aside0.mk (below_step (by repeat (first | (with_reducible first | exact HB.out | apply below_alloc | apply pw_below_drewN | apply below_drew1 | refine below_set ?_ GE232.out | refine below_set ?_ GE238.out) | exact HB.out)) hb); clear HO_1; clear HL227_0; clear HL233_0; clear HL239_0; clear BK232; clear BK238; clear HR239_0; clear HB; have HO_1 := n0_; have HL227_0 := n1_; have HL233_0 := n2_; have HL239_0 := n3_; have HO242 := n4_; have BK232 := n5_; have BK238 := n6_; have HR239_0 := n7_; have HB := n8_; clear n0_ n1_ n2_ n3_ n4_ n5_ n6_ n7_ n8_; clear hb ho53; obtain ⟨Ao54, co54, eo54⟩ := Kd.R_slice HO242.out; subst eo54) | ((with_reducible refine gate_callee (f := 12) rfl ?_); refine goesL_ (some 78) rfl rfl Tryd.func12 (by kernel_rfl) rfl #[.slice A239_0 (rd_L3 t201 0).length c239_0, .slice Ao54 y240.length co54] rfl (by (try simp only [List.map_toArray, List.map_cons, List.map_nil]); first | done | rfl | (simp only [List.length_drop, List.length_take]; rfl)) ?_; (with_reducible refine (stanza_Order.calls kj5 _ _ (rd_L3 t201 0) _ _ y240 t243 t244 _ ?side1 ?side2 ?side3 ?side4 A21.out).mono ?_); (case side1 => repeat (first | exact (by repeat (first | (with_reducible exact HR239_0.out) | (with_reducible refine Kd.C_alloc ?_ _) | (with_reducible refine Kd.C_drewN ?_ _) | (with_reducible refine Kd.C_drew ?_) | exact HR239_0.out)) | (with_reducible refine Kd.C_alloc ?_ _) | (with_reducible refine Kd.C_drewN ?_ _) | (with_reducible refine Kd.C_drew ?_))); (case side2 => exact HC239_0.out); (case side3 => repeat (first | exact (Kd.R_reads' HO242.out).2.2 | (with_reducible refine Kd.C_alloc ?_ _) | (with_reducible refine Kd.C_drewN ?_ _) | (with_reducible refine Kd.C_drew ?_))); (case side4 => exact (Kd.R_reads' HO242.out).2.1); rintro e w55 ⟨rfl, hb⟩; refine ⟨_, rfl, ?_⟩; have n0_ := Aside0.mk (Kd.N_below (by (with_reducible repeat (first | apply Kd.N_alloc | apply Kd.N_drewN | apply Kd.N_drew)); exact HO_1.out) hb); have n1_ := Aside0.mk (Kd.V_below (by (with_reducible repeat (first | apply Kd.V_alloc | apply Kd.V_drewN | apply Kd.V_drew)); exact HL227_0.out) hb); have n2_ := Aside0.mk (Kd.V_below (by (with_reducible repeat (first | apply Kd.V_alloc | apply Kd.V_drewN | apply Kd.V_drew)); exact HL233_0.out) hb); have n3_ := Aside0.mk (Kd.V_below (by (with_reducible repeat (first | apply Kd.V_alloc | apply Kd.V_drewN | apply Kd.V_drew)); exact HL239_0.out) hb); have n4_ := Aside0.mk (Kd.R_below (by (with_reducible repeat (first | apply Kd.R_alloc | apply Kd.R_drewN | apply Kd.R_drew)); exact HO242.out) hb); have n5_ := Aside0.mk (blk_below (g := gb232) (o := .cells #[.string t228, .string t229, .int .i64 t230] 43 (0, 0)) (by (with_reducible repeat (first | refine blk_drewN ?_ _ | refine blk_drew ?_ | refine blk_alloc ?_ _)); exact BK232.out) hb); have n6_ := Aside0.mk (blk_below (g := gb238) (o := .cells #[.string t234, .string t235, .int .i64 t236] 43 (0, 0)) (by (with_reducible repeat (first | refine blk_drewN ?_ _ | refine blk_drew ?_ | refine blk_alloc ?_ _)); exact BK238.out) hb); have n7_ := Aside0.mk (Kd.C_below (by repeat (first | (with_reducible exact HR239_0.out) | (with_reducible refine Kd.C_alloc ?_ _) | (with_reducible refine Kd.C_drewN ?_ _) | (with_reducible refine Kd.C_drew ?_) | exact HR239_0.out)) hb); have n8_ := Aside0.mk (below_step (by repeat (first | (with_reducible first | exact HB.out | apply below_alloc | apply pw_below_drewN | apply below_drew1 | refine below_set ?_ GE232.out | refine below_set ?_ GE238.out) | exact HB.out)) hb); clear HO_1; clear HL227_0; clear HL233_0; clear HL239_0; clear HO242; clear BK232; clear BK238; clear HR239_0; clear HB; have HO_1 := n0_; have HL227_0 := n1_; have HL233_0 := n2_; have HL239_0 := n3_; have HO242 := n4_; have BK232 := n5_; have BK238 := n6_; have HR239_0 := n7_; have HB := n8_; clear n0_ n1_ n2_ n3_ n4_ n5_ n6_ n7_ n8_; (try clear hb); (try clear hb2); (try clear hk); (try clear hi); have p245 : 0 ≤ (0 : Int) := (by omega); have q245 : 0 < (t201.length : Int) := of_decide_eq_true (by first | (with_reducible assumption) | assumption); obtain ⟨ad245, A245_0, c245_0, e245, hx245_0, hl245_0, hi245_0⟩ := at_L3 (Kd.N_reads' HO_1.out).2.2 0 p245 q245; obtain rfl : ad227 = ad245 := (by injection e245); obtain ⟨ce245, hce245, hMe245, hcc245⟩ := Kd.N_get HO_1.out [] 0 p245 (by first | exact q245 | exact of_decide_eq_true (by first | (with_reducible assumption) | assumption) | (have e_ := (Kd.N_reads' HO_1.out).1; omega)); obtain ⟨ua245_0, uc245_0, rfl, ul245_0, ge245_0⟩ := Kd.FK_slice_open hMe245; have hv245_0 := hcc245 0 _ rfl; rw [Nat.add_zero, show ((Kd.slice 43 k43)).sz = 1 from rfl, Nat.mul_one] at hv245_0; replace hv245_0 := Option.some.inj (hv245_0.symm.trans hx245_0); injection hv245_0 with hva_ hvn_ hvc_; rw [hva_] at ge245_0; rw [hvc_] at ul245_0; have HL245_0 := Aside0.mk (show Kd.V k43 43 _ w.heap.size _ _ (rd_L3 t201 0) from Kd.V_mk ul245_0 ge245_0); clear hva_ hvn_ hvc_ ge245_0 ul245_0; clear hcc245 hce245; have qi245 : (0 < t201.length) = True := eq_true (by omega); (try rw [show ((0 : Int)).toNat = 0 from rfl] at hx245_0); (try rw [Addr.add_zero'] at hx245_0); have HR245_0 := Aside0.mk hi245_0; have HC245_0 := Aside0.mk hl245_0; clear hi245_0 hl245_0; replace p245 := eq_true p245; replace q245 := eq_true q245) | ((with_reducible refine gate_dst (N := 85) rfl ?_); (try (refine gate_guard (by rfl) ?_; dsimp only)); refine Kd.R_lit Kd.string _ 9 ?hg (N := 85) ?hd (xs := ([(⟨#[65]⟩ : ByteArray)] : List ByteArray)) (inner := [.string (⟨#[65]⟩ : ByteArray)]) (ok := fun _ => True) (okp := fun _ => True) ?hr ?hp (fun _ hk => hk) trivial (Below.refl _ _) (Nat.le_refl _) (by simp) ?_; (case hd => rfl); (case hg => rfl); (case hr => first | (go_simp; done) | (go_simp; rfl)); (case hp => exact (Reps.one (show Kd.M Kd.string _ _ _ (⟨#[65]⟩ : ByteArray) [.string (⟨#[65]⟩ : ByteArray)] from rfl) (Reps.none _ _))); intro v247 w56 ho57 hb hg_ hnew_; clear hg_ hnew_; (first | rw [← Ny246.out] at ho57 | (simp only [Int.reduceToNat] at ho57; rw [← Ny246.out] at ho57)); have n0_ := Aside0.mk (Kd.N_elder' (by (with_reducible repeat (first | apply Kd.N_alloc | apply Kd.N_drewN | apply Kd.N_drew)); exact HO_1.out) (Kd.R_base ho57) hb); have n1_ := Aside0.mk (Kd.V_elder' (by (with_reducible repeat (first | apply Kd.V_alloc | apply Kd.V_drewN | apply Kd.V_drew)); exact HL227_0.out) (Kd.R_base ho57) hb); have n2_ := Aside0.mk (Kd.V_elder' (by (with_reducible repeat (first | apply Kd.V_alloc | apply Kd.V_drewN | apply Kd.V_drew)); exact HL233_0.out) (Kd.R_base ho57) hb); have n3_ := Aside0.mk (Kd.V_elder' (by (with_reducible repeat (first | apply Kd.V_alloc | apply Kd.V_drewN | apply Kd.V_drew)); exact HL239_0.out) (Kd.R_base ho57) hb); have n4_ := Aside0.mk (Kd.R_elder' (by (with_reducible repeat (first | apply Kd.R_alloc | apply Kd.R_drewN | apply Kd.R_drew)); exact HO242.out) (Kd.R_base ho57) hb); have n5_ := Aside0.mk (Kd.V_elder' (by (with_reducible repeat (first | apply Kd.V_alloc | apply Kd.V_drewN | apply Kd.V_drew)); exact HL245_0.out) (Kd.R_base ho57) hb); have n6_ := Aside0.mk (Kd.R_lower (Kd.R_new' ho57 (Kd.R_lt (by (with_reducible repeat (first | apply Kd.R_alloc | apply Kd.R_drewN | apply Kd.R_drew)); exact HO242.out))) (below_size (by repeat (first | (with_reducible first | exact HB.out | apply below_alloc | apply pw_below_drewN | apply below_drew1 | refine below_set ?_ GE232.out | refine below_set ?_ GE238.out) | exact HB.out)))); have n7_ := Aside0.mk (blk_below (g := gb232) (o := .cells #[.string t228, .string t229, .int .i64 t230] 43 (0, 0)) (by (with_reducible repeat (first | refine blk_drewN ?_ _ | refine blk_drew ?_ | refine blk_alloc ?_ _)); exact BK232.out) hb); have n8_ := Aside0.mk (blk_below (g := gb238) (o := .cells #[.string t234, .string t235, .int .i64 t236] 43 (0, 0)) (by (with_reducible repeat (first | refine blk_drewN ?_ _ | refine blk_drew ?_ | refine blk_alloc ?_ _)); exact BK238.out) hb); have n9_ := Aside0.mk (Kd.C_below (by repeat (first | (with_reducible exact HR239_0.out) | (with_reducible refine Kd.C_alloc ?_ _) | (with_reducible refine Kd.C_drewN ?_ _) | (with_reducible refine Kd.C_drew ?_) | exact HR239_0.out)) hb); have n10_ := Aside0.mk (Kd.C_below (by repeat (first | (with_reducible exact HR245_0.out) | (with_reducible refine Kd.C_alloc ?_ _) | (with_reducible refine Kd.C_drewN ?_ _) | (with_reducible refine Kd.C_drew ?_) | exact HR245_0.out)) hb); have n11_ := Aside0.mk (below_step (by repeat (first | (with_reducible first | exact HB.out | apply below_alloc | apply pw_below_drewN | apply below_drew1 | refine below_set ?_ GE232.out | refine below_set ?_ GE238.out) | exact HB.out)) hb); clear HO_1; clear HL227_0; clear HL233_0; clear HL239_0; clear HO242; clear HL245_0; clear BK232; clear BK238; clear HR239_0; clear HR245_0; clear HB; have HO_1 := n0_; have HL227_0 := n1_; have HL233_0 := n2_; have HL239_0 := n3_; have HO242 := n4_; have HL245_0 := n5_; have HO248 := n6_; have BK232 := n7_; have BK238 := n8_; have HR239_0 := n9_; have HR245_0 := n10_; have HB := n11_; clear n0_ n1_ n2_ n3_ n4_ n5_ n6_ n7_ n8_ n9_ n10_ n11_; clear hb ho57; obtain ⟨Ao58, co58, eo58⟩ := Kd.R_slice HO248.out; subst eo58) | ((with_reducible refine gate_callee (f := 12) rfl ?_); refine goesL_ (some 86) rfl rfl Tryd.func12 (by kernel_rfl) rfl #[.slice A245_0 (rd_L3 t201 0).length c245_0, .slice Ao58 y246.length co58] rfl (by (try simp only [List.map_toArray, List.map_cons, List.map_nil]); first | done | rfl | (simp only [List.length_drop, List.length_take]; rfl)) ?_; (with_reducible refine (stanza_Order.calls kj5 _ _ (rd_L3 t201 0) _ _ y246 t249 t250 _ ?side1 ?side2 ?side3 ?side4 A22.out).mono ?_); (case side1 => repeat (first | exact (by repeat (first | (with_reducible exact HR245_0.out) | (with_reducible refine Kd.C_alloc ?_ _) | (with_reducible refine Kd.C_drewN ?_ _) | (with_reducible refine Kd.C_drew ?_) | exact HR245_0.out)) | (with_reducible refine Kd.C_alloc ?_ _) | (with_reducible refine Kd.C_drewN ?_ _) | (with_reducible refine Kd.C_drew ?_))); (case side2 => exact HC245_0.out); (case side3 => repeat (first | exact (Kd.R_reads' HO248.out).2.2 | (with_reducible refine Kd.C_alloc ?_ _) | (with_reducible refine Kd.C_drewN ?_ _) | (with_reducible refine Kd.C_drew ?_))); (case side4 => exact (Kd.R_reads' HO248.out).2.1); rintro e w59 ⟨rfl, hb⟩; refine ⟨_, rfl, ?_⟩; have n0_ := Aside0.mk (Kd.N_below (by (with_reducible repeat (first | apply Kd.N_alloc | apply Kd.N_drewN | apply Kd.N_drew)); exact HO_1.out) hb); have n1_ := Aside0.mk (Kd.V_below (by (with_reducible repeat (first | apply Kd.V_alloc | apply Kd.V_drewN | apply Kd.V_drew)); exact HL227_0.out) hb); have n2_ := Aside0.mk (Kd.V_below (by (with_reducible repeat (first | apply Kd.V_alloc | apply Kd.V_drewN | apply Kd.V_drew)); exact HL233_0.out) hb); have n3_ := Aside0.mk (Kd.V_below (by (with_reducible repeat (first | apply Kd.V_alloc | apply Kd.V_drewN | apply Kd.V_drew)); exact HL239_0.out) hb); have n4_ := Aside0.mk (Kd.R_below (by (with_reducible repeat (first | apply Kd.R_alloc | apply Kd.R_drewN | apply Kd.R_drew)); exact HO242.out) hb); have n5_ := Aside0.mk (Kd.V_below (by (with_reducible repeat (first | apply Kd.V_alloc | apply Kd.V_drewN | apply Kd.V_drew)); exact HL245_0.out) hb); have n6_ := Aside0.mk (Kd.R_below (by (with_reducible repeat (first | apply Kd.R_alloc | apply Kd.R_drewN | apply Kd.R_drew)); exact HO248.out) hb); have n7_ := Aside0.mk (blk_below (g := gb232) (o := .cells #[.string t228, .string t229, .int .i64 t230] 43 (0, 0)) (by (with_reducible repeat (first | refine blk_drewN ?_ _ | refine blk_drew ?_ | refine blk_alloc ?_ _)); exact BK232.out) hb); have n8_ := Aside0.mk (blk_below (g := gb238) (o := .cells #[.string t234, .string t235, .int .i64 t236] 43 (0, 0)) (by (with_reducible repeat (first | refine blk_drewN ?_ _ | refine blk_drew ?_ | refine blk_alloc ?_ _)); exact BK238.out) hb); have n9_ := Aside0.mk (Kd.C_below (by repeat (first | (with_reducible exact HR239_0.out) | (with_reducible refine Kd.C_alloc ?_ _) | (with_reducible refine Kd.C_drewN ?_ _) | (with_reducible refine Kd.C_drew ?_) | exact HR239_0.out)) hb); have n10_ := Aside0.mk (Kd.C_below (by repeat (first | (with_reducible exact HR245_0.out) | (with_reducible refine Kd.C_alloc ?_ _) | (with_reducible refine Kd.C_drewN ?_ _) | (with_reducible refine Kd.C_drew ?_) | exact HR245_0.out)) hb); have n11_ := Aside0.mk (below_step (by repeat (first | (with_reducible first | exact HB.out | apply below_alloc | apply pw_below_drewN | apply below_drew1 | refine below_set ?_ GE232.out | refine below_set ?_ GE238.out) | exact HB.out)) hb); clear HO_1; clear HL227_0; clear HL233_0; clear HL239_0; clear HO242; clear HL245_0; clear HO248; clear BK232; clear BK238; clear HR239_0; clear HR245_0; clear HB; have HO_1 := n0_; have HL227_0 := n1_; have HL233_0 := n2_; have HL239_0 := n3_; have HO242 := n4_; have HL245_0 := n5_; have HO248 := n6_; have BK232 := n7_; have BK238 := n8_; have HR239_0 := n9_; have HR245_0 := n10_; have HB := n11_; clear n0_ n1_ n2_ n3_ n4_ n5_ n6_ n7_ n8_ n9_ n10_ n11_; (try clear hb); (try clear hb2); (try clear hk); (try clear hi)) | ((with_reducible refine gate_dst (N := 95) rfl ?_); (try (refine gate_guard (by rfl) ?_; dsimp only)); refine Kd.R_lit k46 _ 46 ?hg (N := 95) ?hd (xs := ([(⟨(⟨#[65]⟩ : ByteArray), (⟨#[49]⟩ : ByteArray), 0⟩ : S46), (⟨(⟨#[66]⟩ : ByteArray), (⟨#[]⟩ : ByteArray), 1⟩ : S46)] : List (S46))) (inner := [.string (⟨#[65]⟩ : ByteArray), .string (⟨#[49]⟩ : ByteArray), .int .i64 0, .string (⟨#[66]⟩ : ByteArray), .string (⟨#[]⟩ : ByteArray), .int .i64 1]) (ok := fun _ => True) (okp := fun _ => True) ?hr ?hp (fun _ hk => hk) trivial (Below.refl _ _) (Nat.le_refl _) (by simp) ?_; (case hd => rfl); (case hg => rfl); (case hr => first | (go_simp; done) | (go_simp; rfl)); (case hp => exact (Reps.c3 (show Kd.M k46 _ _ _ (⟨(⟨#[65]⟩ : ByteArray), (⟨#[49]⟩ : ByteArray), 0⟩ : S46) [.string (⟨#[65]⟩ : ByteArray), .string (⟨#[49]⟩ : ByteArray), .int .i64 0] from (k46_mkM _ _ _ (⟨(⟨#[65]⟩ : ByteArray), (⟨#[49]⟩ : ByteArray), 0⟩ : S46) )) (Reps.c3 (show Kd.M k46 _ _ _ (⟨(⟨#[66]⟩ : ByteArray), (⟨#[]⟩ : ByteArray), 1⟩ : S46) [.string (⟨#[66]⟩ : ByteArray), .string (⟨#[]⟩ : ByteArray), .int .i64 1] from (k46_mkM _ _ _ (⟨(⟨#[66]⟩ : ByteArray), (⟨#[]⟩ : ByteArray), 1⟩ : S46) )) (Reps.none _ _)))); intro v252 w60 ho61 hb hg_ hnew_; clear hg_ hnew_; (first | rw [← Ny251.out] at ho61 | (simp only [Int.reduceToNat] at ho61; rw [← Ny251.out] at ho61)); have n0_ := Aside0.mk (Kd.N_elder' (by (with_reducible repeat (first | apply Kd.N_alloc | apply Kd.N_drewN | apply Kd.N_drew)); exact HO_1.out) (Kd.R_base ho61) hb); have n1_ := Aside0.mk (Kd.V_elder' (by (with_reducible repeat (first | apply Kd.V_alloc | apply Kd.V_drewN | apply Kd.V_drew)); exact HL227_0.out) (Kd.R_base ho61) hb); have n2_ := Aside0.mk (Kd.V_elder' (by (with_reducible repeat (first | apply Kd.V_alloc | apply Kd.V_drewN | apply Kd.V_drew)); exact HL233_0.out) (Kd.R_base ho61) hb); have n3_ := Aside0.mk (Kd.V_elder' (by (with_reducible repeat (first | apply Kd.V_alloc | apply Kd.V_drewN | apply Kd.V_drew)); exact HL239_0.out) (Kd.R_base ho61) hb); have n4_ := Aside0.mk (Kd.R_below (by (with_reducible repeat (first | apply Kd.R_alloc | apply Kd.R_drewN | apply Kd.R_drew)); exact HO242.out) hb); have n5_ := Aside0.mk (Kd.V_elder' (by (with_reducible repeat (first | apply Kd.V_alloc | apply Kd.V_drewN | apply Kd.V_drew)); exact HL245_0.out) (Kd.R_base ho61) hb); have n6_ := Aside0.mk (Kd.R_below (by (with_reducible repeat (first | apply Kd.R_alloc | apply Kd.R_drewN | apply Kd.R_drew)); exact HO248.out) hb); have n7_ := Aside0.mk (Kd.R_lower ho61 (below_size (by repeat (first | (with_reducible first | exact HB.out | apply below_alloc | apply pw_below_drewN | apply below_drew1 | refine below_set ?_ GE232.out | refine below_set ?_ GE238.out) | exact HB.out)))); have n8_ := Aside0.mk (blk_below (g := gb232) (o := .cells #[.string t228, .string t229, .int .i64 t230] 43 (0, 0)) (by (with_reducible repeat (first | refine blk_drewN ?_ _ | refine blk_drew ?_ | refine blk_alloc ?_ _)); exact BK232.out) hb); have n9_ := Aside0.mk (blk_below (g := gb238) (o := .cells #[.string t234, .string t235, .int .i64 t236] 43 (0, 0)) (by (with_reducible repeat (first | refine blk_drewN ?_ _ | refine blk_drew ?_ | refine blk_alloc ?_ _)); exact BK238.out) hb); have n10_ := Aside0.mk (Kd.C_below (by repeat (first | (with_reducible exact HR239_0.out) | (with_reducible refine Kd.C_alloc ?_ _) | (with_reducible refine Kd.C_drewN ?_ _) | (with_reducible refine Kd.C_drew ?_) | exact HR239_0.out)) hb); have n11_ := Aside0.mk (Kd.C_below (by repeat (first | (with_reducible exact HR245_0.out) | (with_reducible refine Kd.C_alloc ?_ _) | (with_reducible refine Kd.C_drewN ?_ _) | (with_reducible refine Kd.C_drew ?_) | exact HR245_0.out)) hb); have n12_ := Aside0.mk (below_step (by repeat (first | (with_reducible first | exact HB.out | apply below_alloc | apply pw_below_drewN | apply below_drew1 | refine below_set ?_ GE232.out | refine below_set ?_ GE238.out) | exact HB.out)) hb); clear HO_1; clear HL227_0; clear HL233_0; clear HL239_0; clear HO242; clear HL245_0; clear HO248; clear BK232; clear BK238; clear HR239_0; clear HR245_0; clear HB; have HO_1 := n0_; have HL227_0 := n1_; have HL233_0 := n2_; have HL239_0 := n3_; have HO242 := n4_; have HL245_0 := n5_; have HO248 := n6_; have HO253 := n7_; have BK232 := n8_; have BK238 := n9_; have HR239_0 := n10_; have HR245_0 := n11_; have HB := n12_; clear n0_ n1_ n2_ n3_ n4_ n5_ n6_ n7_ n8_ n9_ n10_ n11_ n12_; clear hb ho61) | ((with_reducible refine gate_dst (N := 97) rfl ?_); (try (refine gate_guard (by rfl) ?_; dsimp only)); refine Kd.R_lit k46 _ 46 ?hg (N := 97) ?hd (xs := ([(⟨(⟨#[65]⟩ : ByteArray), (⟨#[120, 32, 121]⟩ : ByteArray), 3⟩ : S46)] : List (S46))) (inner := [.string (⟨#[65]⟩ : ByteArray), .string (⟨#[120, 32, 121]⟩ : ByteArray), .int .i64 3]) (ok := fun _ => True) (okp := fun _ => True) ?hr ?hp (fun _ hk => hk) trivial (Below.refl _ _) (Nat.le_refl _) (by simp) ?_; (case hd => rfl); (case hg => rfl); (case hr => first | (go_simp; done) | (go_simp; rfl)); (case hp => exact (Reps.c3 (show Kd.M k46 _ _ _ (⟨(⟨#[65]⟩ : ByteArray), (⟨#[120, 32, 121]⟩ : ByteArray), 3⟩ : S46) [.string (⟨#[65]⟩ : ByteArray), .string (⟨#[120, 32, 121]⟩ : ByteArray), .int .i64 3] from (k46_mkM _ _ _ (⟨(⟨#[65]⟩ : ByteArray), (⟨#[120, 32, 121]⟩ : ByteArray), 3⟩ : S46) )) (Reps.none _ _))); intro v255 w62 ho63 hb hg_ hnew_; clear hg_ hnew_; (first | rw [← Ny254.out] at ho63 | (simp only [Int.reduceToNat] at ho63; rw [← Ny254.out] at ho63)); have n0_ := Aside0.mk (Kd.N_elder' (by (with_reducible repeat (first | apply Kd.N_alloc | apply Kd.N_drewN | apply Kd.N_drew)); exact HO_1.out) (Kd.R_base ho63) hb); have n1_ := Aside0.mk (Kd.V_elder' (by (with_reducible repeat (first | apply Kd.V_alloc | apply Kd.V_drewN | apply Kd.V_drew)); exact HL227_0.out) (Kd.R_base ho63) hb); have n2_ := Aside0.mk (Kd.V_elder' (by (with_reducible repeat (first | apply Kd.V_alloc | apply Kd.V_drewN | apply Kd.V_drew)); exact HL233_0.out) (Kd.R_base ho63) hb); have n3_ := Aside0.mk (Kd.V_elder' (by (with_reducible repeat (first | apply Kd.V_alloc | apply Kd.V_drewN | apply Kd.V_drew)); exact HL239_0.out) (Kd.R_base ho63) hb); have n4_ := Aside0.mk (Kd.R_below (by (with_reducible repeat (first | apply Kd.R_alloc | apply Kd.R_drewN | apply Kd.R_drew)); exact HO242.out) hb); have n5_ := Aside0.mk (Kd.V_elder' (by (with_reducible repeat (first | apply Kd.V_alloc | apply Kd.V_drewN | apply Kd.V_drew)); exact HL245_0.out) (Kd.R_base ho63) hb); have n6_ := Aside0.mk (Kd.R_below (by (with_reducible repeat (first | apply Kd.R_alloc | apply Kd.R_drewN | apply Kd.R_drew)); exact HO248.out) hb); have n7_ := Aside0.mk (Kd.R_elder' (by (with_reducible repeat (first | apply Kd.R_alloc | apply Kd.R_drewN | apply Kd.R_drew)); exact HO253.out) (Kd.R_base ho63) hb); have n8_ := Aside0.mk (Kd.R_lower (Kd.R_new' ho63 (Kd.R_lt (by (with_reducible repeat (first | apply Kd.R_alloc | apply Kd.R_drewN | apply Kd.R_drew)); exact HO253.out))) (below_size (by repeat (first | (with_reducible first | exact HB.out | apply below_alloc | apply pw_below_drewN | apply below_drew1 | refine below_set ?_ GE232.out | refine below_set ?_ GE238.out) | exact HB.out)))); have n9_ := Aside0.mk (blk_below (g := gb232) (o := .cells #[.string t228, .string t229, .int .i64 t230] 43 (0, 0)) (by (with_reducible repeat (first | refine blk_drewN ?_ _ | refine blk_drew ?_ | refine blk_alloc ?_ _)); exact BK232.out) hb); have n10_ := Aside0.mk (blk_below (g := gb238) (o := .cells #[.string t234, .string t235, .int .i64 t236] 43 (0, 0)) (by (with_reducible repeat (first | refine blk_drewN ?_ _ | refine blk_drew ?_ | refine blk_alloc ?_ _)); exact BK238.out) hb); have n11_ := Aside0.mk (Kd.C_below (by repeat (first | (with_reducible exact HR239_0.out) | (with_reducible refine Kd.C_alloc ?_ _) | (with_reducible refine Kd.C_drewN ?_ _) | (with_reducible refine Kd.C_drew ?_) | exact HR239_0.out)) hb); have n12_ := Aside0.mk (Kd.C_below (by repeat (first | (with_reducible exact HR245_0.out) | (with_reducible refine Kd.C_alloc ?_ _) | (with_reducible refine Kd.C_drewN ?_ _) | (with_reducible refine Kd.C_drew ?_) | exact HR245_0.out)) hb); have n13_ := Aside0.mk (below_step (by repeat (first | (with_reducible first | exact HB.out | apply below_alloc | apply pw_below_drewN | apply below_drew1 | refine below_set ?_ GE232.out | refine below_set ?_ GE238.out) | exact HB.out)) hb); clear HO_1; clear HL227_0; clear HL233_0; clear HL239_0; clear HO242; clear HL245_0; clear HO248; clear HO253; clear BK232; clear BK238; clear HR239_0; clear HR245_0; clear HB; have HO_1 := n0_; have HL227_0 := n1_; have HL233_0 := n2_; have HL239_0 := n3_; have HO242 := n4_; have HL245_0 := n5_; have HO248 := n6_; have HO253 := n7_; have HO256 := n8_; have BK232 := n9_; have BK238 := n10_; have HR239_0 := n11_; have HR245_0 := n12_; have HB := n13_; clear n0_ n1_ n2_ n3_ n4_ n5_ n6_ n7_ n8_ n9_ n10_ n11_ n12_ n13_; clear hb ho63; obtain ⟨Ao64, co64, eo64⟩ := Kd.R_slice HO253.out; subst eo64; obtain ⟨Ao65, co65, eo65⟩ := Kd.R_slice HO256.out; subst eo65) | ((with_reducible refine gate_dst (N := 98) rfl ?_); (try (refine gate_guard (by rfl) ?_; dsimp only)); refine Kd.N_lit (Kd.slice 46 k46) _ 33 ?hg (N' := 98) ?hd (xs := ([y251, y254] : List (List (S46)))) (inner := [.slice Ao64 y251.length co64, .slice Ao65 y254.length co65]) (ok := (fun k_ => some k_ ≠ (.slice (some ad227) t201.length co42 : Value).ownBlock ∧ some k_ ≠ (.slice Ao54 y240.length co54 : Value).ownBlock ∧ some k_ ≠ (.slice Ao58 y246.length co58 : Value).ownBlock ∧ k_ ≠ gb232 ∧ k_ ≠ gb238)) (okp := (fun k_ => some k_ ≠ (.slice (some ad227) t201.length co42 : Value).ownBlock ∧ some k_ ≠ (.slice Ao54 y240.length co54 : Value).ownBlock ∧ some k_ ≠ (.slice Ao58 y246.length co58 : Value).ownBlock ∧ k_ ≠ gb232 ∧ k_ ≠ gb238)) ?hr ?hp (fun _ hk => hk) ((show ∀ k_, w62.heap.size ≤ k_ → (fun k_ => some k_ ≠ (.slice (some ad227) t201.length co42 : Value).ownBlock ∧ some k_ ≠ (.slice Ao54 y240.length co54 : Value).ownBlock ∧ some k_ ≠ (.slice Ao58 y246.length co58 : Value).ownBlock ∧ k_ ≠ gb232 ∧ k_ ≠ gb238) k_ from fun k_ hk => ⟨Kd.fresh' (Kd.N_lt (by (with_reducible repeat (first | apply Kd.N_alloc | apply Kd.N_drewN | apply Kd.N_drew)); exact HO_1.out)) k_ hk, Kd.fresh' (Kd.R_lt (by (with_reducible repeat (first | apply Kd.R_alloc | apply Kd.R_drewN | apply Kd.R_drew)); exact HO242.out)) k_ hk, Kd.fresh' (Kd.R_lt (by (with_reducible repeat (first | apply Kd.R_alloc | apply Kd.R_drewN | apply Kd.R_drew)); exact HO248.out)) k_ hk, Kd.freshB (g := gb232) (o := .cells #[.string t228, .string t229, .int .i64 t230] 43 (0, 0)) (by (with_reducible repeat (first | refine blk_drewN ?_ _ | refine blk_drew ?_ | refine blk_alloc ?_ _)); exact BK232.out) k_ hk, Kd.freshB (g := gb238) (o := .cells #[.string t234, .string t235, .int .i64 t236] 43 (0, 0)) (by (with_reducible repeat (first | refine blk_drewN ?_ _ | refine blk_drew ?_ | refine blk_alloc ?_ _)); exact BK238.out) k_ hk⟩) _ (Nat.le_refl _)) (Below.refl _ _) (Nat.le_refl _) (by simp) ?_; (case hd => rfl); (case hg => rfl); (case hr => first | (go_simp; done) | (go_simp; rfl)); (case hp => exact (Reps.one (show Kd.FK (Kd.slice 46 k46) _ _ y251 [.slice Ao64 y251.length co64] from (Kd.FK_slice_mk (Kd.R_reads' (Kd.R_mono (ok' := (fun k_ => some k_ ≠ (.slice (some ad227) t201.length co42 : Value).ownBlock ∧ some k_ ≠ (.slice Ao54 y240.length co54 : Value).ownBlock ∧ some k_ ≠ (.slice Ao58 y246.length co58 : Value).ownBlock ∧ k_ ≠ gb232 ∧ k_ ≠ gb238)) (Kd.R_types (Kd.R_types (Kd.R_apart' (Kd.R_apart' (Kd.R_apart' (HO253.out) (Kd.N_typed HO_1.out) (by decide)) (Kd.R_typed HO242.out) (by decide)) (Kd.R_typed HO248.out) (by decide)) BK232.out (by decide)) BK238.out (by decide)) (fun k_ hk => ⟨hk.1.1.1.1.2, ⟨hk.1.1.1.2, ⟨hk.1.1.2, ⟨hk.1.2, hk.2⟩⟩⟩⟩))).2.1 (Kd.R_F (Kd.R_mono (ok' := (fun k_ => some k_ ≠ (.slice (some ad227) t201.length co42 : Value).ownBlock ∧ some k_ ≠ (.slice Ao54 y240.length co54 : Value).ownBlock ∧ some k_ ≠ (.slice Ao58 y246.length co58 : Value).ownBlock ∧ k_ ≠ gb232 ∧ k_ ≠ gb238)) (Kd.R_types (Kd.R_types (Kd.R_apart' (Kd.R_apart' (Kd.R_apart' (HO253.out) (Kd.N_typed HO_1.out) (by decide)) (Kd.R_typed HO242.out) (by decide)) (Kd.R_typed HO248.out) (by decide)) BK232.out (by decide)) BK238.out (by decide)) (fun k_ hk => ⟨hk.1.1.1.1.2, ⟨hk.1.1.1.2, ⟨hk.1.1.2, ⟨hk.1.2, hk.2⟩⟩⟩⟩))))) (Reps.one (show Kd.FK (Kd.slice 46 k46) _ _ y254 [.slice Ao65 y254.length co65] from (Kd.FK_slice_mk (Kd.R_reads' (Kd.R_mono (ok' := (fun k_ => some k_ ≠ (.slice (some ad227) t201.length co42 : Value).ownBlock ∧ some k_ ≠ (.slice Ao54 y240.length co54 : Value).ownBlock ∧ some k_ ≠ (.slice Ao58 y246.length co58 : Value).ownBlock ∧ k_ ≠ gb232 ∧ k_ ≠ gb238)) (Kd.R_types (Kd.R_types (Kd.R_apart' (Kd.R_apart' (Kd.R_apart' (HO256.out) (Kd.N_typed HO_1.out) (by decide)) (Kd.R_typed HO242.out) (by decide)) (Kd.R_typed HO248.out) (by decide)) BK232.out (by decide)) BK238.out (by decide)) (fun k_ hk => ⟨hk.1.1.1.1.2, ⟨hk.1.1.1.2, ⟨hk.1.1.2, ⟨hk.1.2, hk.2⟩⟩⟩⟩))).2.1 (Kd.R_F (Kd.R_mono (ok' := (fun k_ => some k_ ≠ (.slice (some ad227) t201.length co42 : Value).ownBlock ∧ some k_ ≠ (.slice Ao54 y240.length co54 : Value).ownBlock ∧ some k_ ≠ (.slice Ao58 y246.length co58 : Value).ownBlock ∧ k_ ≠ gb232 ∧ k_ ≠ gb238)) (Kd.R_types (Kd.R_types (Kd.R_apart' (Kd.R_apart' (Kd.R_apart' (HO256.out) (Kd.N_typed HO_1.out) (by decide)) (Kd.R_typed HO242.out) (by decide)) (Kd.R_typed HO248.out) (by decide)) BK232.out (by decide)) BK238.out (by decide)) (fun k_ hk => ⟨hk.1.1.1.1.2, ⟨hk.1.1.1.2, ⟨hk.1.1.2, ⟨hk.1.2, hk.2⟩⟩⟩⟩))))) (Reps.none _ _)))); intro v258 w66 ho67 hb hg_ hnew_; clear hg_ hnew_; (first | rw [← Ny257.out] at ho67 | (simp only [Int.reduceToNat] at ho67; rw [← Ny257.out] at ho67)); have n0_ := Aside0.mk (Kd.N_elder' (by (with_reducible repeat (first | apply Kd.N_alloc | apply Kd.N_drewN | apply Kd.N_drew)); exact HO_1.out) (Kd.N_base ho67) hb); have n1_ := Aside0.mk (Kd.V_elder' (by (with_reducible repeat (first | apply Kd.V_alloc | apply Kd.V_drewN | apply Kd.V_drew)); exact HL227_0.out) (Kd.N_base ho67) hb); have n2_ := Aside0.mk (Kd.V_elder' (by (with_reducible repeat (first | apply Kd.V_alloc | apply Kd.V_drewN | apply Kd.V_drew)); exact HL233_0.out) (Kd.N_base ho67) hb); have n3_ := Aside0.mk (Kd.V_elder' (by (with_reducible repeat (first | apply Kd.V_alloc | apply Kd.V_drewN | apply Kd.V_drew)); exact HL239_0.out) (Kd.N_base ho67) hb); have n4_ := Aside0.mk (Kd.R_below (by (with_reducible repeat (first | apply Kd.R_alloc | apply Kd.R_drewN | apply Kd.R_drew)); exact HO242.out) hb); have n5_ := Aside0.mk (Kd.V_elder' (by (with_reducible repeat (first | apply Kd.V_alloc | apply Kd.V_drewN | apply Kd.V_drew)); exact HL245_0.out) (Kd.N_base ho67) hb); have n6_ := Aside0.mk (Kd.R_below (by (with_reducible repeat (first | apply Kd.R_alloc | apply Kd.R_drewN | apply Kd.R_drew)); exact HO248.out) hb); have n7_ := Aside0.mk (Kd.N_lower ho67 (below_size (by repeat (first | (with_reducible first | exact HB.out | apply below_alloc | apply pw_below_drewN | apply below_drew1 | refine below_set ?_ GE232.out | refine below_set ?_ GE238.out) | exact HB.out)))); have n8_ := Aside0.mk (blk_below (g := gb232) (o := .cells #[.string t228, .string t229, .int .i64 t230] 43 (0, 0)) (by (with_reducible repeat (first | refine blk_drewN ?_ _ | refine blk_drew ?_ | refine blk_alloc ?_ _)); exact BK232.out) hb); have n9_ := Aside0.mk (blk_below (g := gb238) (o := .cells #[.string t234, .string t235, .int .i64 t236] 43 (0, 0)) (by (with_reducible repeat (first | refine blk_drewN ?_ _ | refine blk_drew ?_ | refine blk_alloc ?_ _)); exact BK238.out) hb); have n10_ := Aside0.mk (Kd.C_below (by repeat (first | (with_reducible exact HR239_0.out) | (with_reducible refine Kd.C_alloc ?_ _) | (with_reducible refine Kd.C_drewN ?_ _) | (with_reducible refine Kd.C_drew ?_) | exact HR239_0.out)) hb); have n11_ := Aside0.mk (Kd.C_below (by repeat (first | (with_reducible exact HR245_0.out) | (with_reducible refine Kd.C_alloc ?_ _) | (with_reducible refine Kd.C_drewN ?_ _) | (with_reducible refine Kd.C_drew ?_) | exact HR245_0.out)) hb); have n12_ := Aside0.mk (below_step (by repeat (first | (with_reducible first | exact HB.out | apply below_alloc | apply pw_below_drewN | apply below_drew1 | refine below_set ?_ GE232.out | refine below_set ?_ GE238.out) | exact HB.out)) hb); clear HO_1; clear HL227_0; clear HL233_0; clear HL239_0; clear HO242; clear HL245_0; clear HO248; clear BK232; clear BK238; clear HR239_0; clear HR245_0; clear HB; clear HO253; clear HO256; have HO_1 := n0_; have HL227_0 := n1_; have HL233_0 := n2_; have HL239_0 := n3_; have HO242 := n4_; have HL245_0 := n5_; have HO248 := n6_; have HO259 := n7_; have BK232 := n8_; have BK238 := n9_; have HR239_0 := n10_; have HR245_0 := n11_; have HB := n12_; clear n0_ n1_ n2_ n3_ n4_ n5_ n6_ n7_ n8_ n9_ n10_ n11_ n12_; clear hb ho67; obtain ⟨Ao68, co68, eo68⟩ := Kd.N_slice HO259.out; subst eo68) | (go_at_call 10; (with_reducible refine (manciplelaw5_same.calls kj5 _ _ t201 _ _ y257 true _ ?side1 ?side2 ?side3 ?side4 A24.out).mono ?_); (case side1 => repeat (first | exact (Kd.N_reads' HO_1.out).2.2 | (with_reducible refine Kd.C_alloc ?_ _) | (with_reducible refine Kd.C_drewN ?_ _) | (with_reducible refine Kd.C_drew ?_))); (case side2 => exact (Kd.N_reads' HO_1.out).2.1); (case side3 => repeat (first | exact (Kd.N_reads' HO259.out).2.2 | (with_reducible refine Kd.C_alloc ?_ _) | (with_reducible refine Kd.C_drewN ?_ _) | (with_reducible refine Kd.C_drew ?_))); (case side4 => exact (Kd.N_reads' HO259.out).2.1); rintro e w69 ⟨rfl, hb⟩; have n0_ := Aside0.mk (Kd.N_below (by (with_reducible repeat (first | apply Kd.N_alloc | apply Kd.N_drewN | apply Kd.N_drew)); exact HO_1.out) hb); have n1_ := Aside0.mk (Kd.V_below (by (with_reducible repeat (first | apply Kd.V_alloc | apply Kd.V_drewN | apply Kd.V_drew)); exact HL227_0.out) hb); have n2_ := Aside0.mk (Kd.V_below (by (with_reducible repeat (first | apply Kd.V_alloc | apply Kd.V_drewN | apply Kd.V_drew)); exact HL233_0.out) hb); have n3_ := Aside0.mk (Kd.V_below (by (with_reducible repeat (first | apply Kd.V_alloc | apply Kd.V_drewN | apply Kd.V_drew)); exact HL239_0.out) hb); have n4_ := Aside0.mk (Kd.R_below (by (with_reducible repeat (first | apply Kd.R_alloc | apply Kd.R_drewN | apply Kd.R_drew)); exact HO242.out) hb); have n5_ := Aside0.mk (Kd.V_below (by (with_reducible repeat (first | apply Kd.V_alloc | apply Kd.V_drewN | apply Kd.V_drew)); exact HL245_0.out) hb); have n6_ := Aside0.mk (Kd.R_below (by (with_reducible repeat (first | apply Kd.R_alloc | apply Kd.R_drewN | apply Kd.R_drew)); exact HO248.out) hb); have n7_ := Aside0.mk (Kd.N_below (by (with_reducible repeat (first | apply Kd.N_alloc | apply Kd.N_drewN | apply Kd.N_drew)); exact HO259.out) hb); have n8_ := Aside0.mk (blk_below (g := gb232) (o := .cells #[.string t228, .string t229, .int .i64 t230] 43 (0, 0)) (by (with_reducible repeat (first | refine blk_drewN ?_ _ | refine blk_drew ?_ | refine blk_alloc ?_ _)); exact BK232.out) hb); have n9_ := Aside0.mk (blk_below (g := gb238) (o := .cells #[.string t234, .string t235, .int .i64 t236] 43 (0, 0)) (by (with_reducible repeat (first | refine blk_drewN ?_ _ | refine blk_drew ?_ | refine blk_alloc ?_ _)); exact BK238.out) hb); have n10_ := Aside0.mk (Kd.C_below (by repeat (first | (with_reducible exact HR239_0.out) | (with_reducible refine Kd.C_alloc ?_ _) | (with_reducible refine Kd.C_drewN ?_ _) | (with_reducible refine Kd.C_drew ?_) | exact HR239_0.out)) hb); have n11_ := Aside0.mk (Kd.C_below (by repeat (first | (with_reducible exact HR245_0.out) | (with_reducible refine Kd.C_alloc ?_ _) | (with_reducible refine Kd.C_drewN ?_ _) | (with_reducible refine Kd.C_drew ?_) | exact HR245_0.out)) hb); have n12_ := Aside0.mk (below_step (by repeat (first | (with_reducible first | exact HB.out | apply below_alloc | apply pw_below_drewN | apply below_drew1 | refine below_set ?_ GE232.out | refine below_set ?_ GE238.out) | exact HB.out)) hb); clear HO_1; clear HL227_0; clear HL233_0; clear HL239_0; clear HO242; clear HL245_0; clear HO248; clear HO259; clear BK232; clear BK238; clear HR239_0; clear HR245_0; clear HB; have HO_1 := n0_; have HL227_0 := n1_; have HL233_0 := n2_; have HL239_0 := n3_; have HO242 := n4_; have HL245_0 := n5_; have HO248 := n6_; have HO259 := n7_; have BK232 := n8_; have BK238 := n9_; have HR239_0 := n10_; have HR245_0 := n11_; have HB := n12_; clear n0_ n1_ n2_ n3_ n4_ n5_ n6_ n7_ n8_ n9_ n10_ n11_ n12_; (try clear hb); (try clear hb2); (try clear hk); (try clear hi)) | (go_at_call 11; (with_reducible refine (stanza_Print.calls _ _ t201 t261 _ ?side1 ?side2 A26.out).mono ?_); (case side1 => repeat (first | exact (Kd.N_reads' HO_1.out).2.2 | (with_reducible refine Kd.C_alloc ?_ _) | (with_reducible refine Kd.C_drewN ?_ _) | (with_reducible refine Kd.C_drew ?_))); (case side2 => exact (Kd.N_reads' HO_1.out).2.1); rintro e w70 ⟨rfl, hb⟩; have n0_ := Aside0.mk (Kd.N_below (by (with_reducible repeat (first | apply Kd.N_alloc | apply Kd.N_drewN | apply Kd.N_drew)); exact HO_1.out) hb); have n1_ := Aside0.mk (Kd.V_below (by (with_reducible repeat (first | apply Kd.V_alloc | apply Kd.V_drewN | apply Kd.V_drew)); exact HL227_0.out) hb); have n2_ := Aside0.mk (Kd.V_below (by (with_reducible repeat (first | apply Kd.V_alloc | apply Kd.V_drewN | apply Kd.V_drew)); exact HL233_0.out) hb); have n3_ := Aside0.mk (Kd.V_below (by (with_reducible repeat (first | apply Kd.V_alloc | apply Kd.V_drewN | apply Kd.V_drew)); exact HL239_0.out) hb); have n4_ := Aside0.mk (Kd.R_below (by (with_reducible repeat (first | apply Kd.R_alloc | apply Kd.R_drewN | apply Kd.R_drew)); exact HO242.out) hb); have n5_ := Aside0.mk (Kd.V_below (by (with_reducible repeat (first | apply Kd.V_alloc | apply Kd.V_drewN | apply Kd.V_drew)); exact HL245_0.out) hb); have n6_ := Aside0.mk (Kd.R_below (by (with_reducible repeat (first | apply Kd.R_alloc | apply Kd.R_drewN | apply Kd.R_drew)); exact HO248.out) hb); have n7_ := Aside0.mk (Kd.N_below (by (with_reducible repeat (first | apply Kd.N_alloc | apply Kd.N_drewN | apply Kd.N_drew)); exact HO259.out) hb); have n8_ := Aside0.mk (blk_below (g := gb232) (o := .cells #[.string t228, .string t229, .int .i64 t230] 43 (0, 0)) (by (with_reducible repeat (first | refine blk_drewN ?_ _ | refine blk_drew ?_ | refine blk_alloc ?_ _)); exact BK232.out) hb); have n9_ := Aside0.mk (blk_below (g := gb238) (o := .cells #[.string t234, .string t235, .int .i64 t236] 43 (0, 0)) (by (with_reducible repeat (first | refine blk_drewN ?_ _ | refine blk_drew ?_ | refine blk_alloc ?_ _)); exact BK238.out) hb); have n10_ := Aside0.mk (Kd.C_below (by repeat (first | (with_reducible exact HR239_0.out) | (with_reducible refine Kd.C_alloc ?_ _) | (with_reducible refine Kd.C_drewN ?_ _) | (with_reducible refine Kd.C_drew ?_) | exact HR239_0.out)) hb); have n11_ := Aside0.mk (Kd.C_below (by repeat (first | (with_reducible exact HR245_0.out) | (with_reducible refine Kd.C_alloc ?_ _) | (with_reducible refine Kd.C_drewN ?_ _) | (with_reducible refine Kd.C_drew ?_) | exact HR245_0.out)) hb); have n12_ := Aside0.mk (below_step (by repeat (first | (with_reducible first | exact HB.out | apply below_alloc | apply pw_below_drewN | apply below_drew1 | refine below_set ?_ GE232.out | refine below_set ?_ GE238.out) | exact HB.out)) hb); clear HO_1; clear HL227_0; clear HL233_0; clear HL239_0; clear HO242; clear HL245_0; clear HO248; clear HO259; clear BK232; clear BK238; clear HR239_0; clear HR245_0; clear HB; have HO_1 := n0_; have HL227_0 := n1_; have HL233_0 := n2_; have HL239_0 := n3_; have HO242 := n4_; have HL245_0 := n5_; have HO248 := n6_; have HO259 := n7_; have BK232 := n8_; have BK238 := n9_; have HR239_0 := n10_; have HR245_0 := n11_; have HB := n12_; clear n0_ n1_ n2_ n3_ n4_ n5_ n6_ n7_ n8_ n9_ n10_ n11_ n12_; (try clear hb); (try clear hb2); (try clear hk); (try clear hi); have hcz71_0 : w70.cell? ⟨gb232, 0, none⟩ = some (.string t228) := (blk_cell BK232.out 0).trans rfl; have hcz71_1 : w70.cell? ⟨gb232, 1, none⟩ = some (.string t229) := (blk_cell BK232.out 1).trans rfl; have hcz71_2 : w70.cell? ⟨gb232, 2, none⟩ = some (.int .i64 t230) := (blk_cell BK232.out 2).trans rfl; have hfz71_0 := blk_frozen BK232.out 0; have hfz71_1 := blk_frozen BK232.out 1; have hfz71_2 := blk_frozen BK232.out 2))
                                              go_ret
                                              exact ⟨by first | rfl | (simp [errW_none, errW_some] <;> rfl) | (simp [*, errW_none, errW_some] <;> rfl), by repeat (first | (with_reducible first | exact HB.out | apply below_alloc | apply pw_below_drewN | apply below_drew1 | refine below_set ?_ GE232.out | refine below_set ?_ GE238.out) | exact HB.out)⟩
                                            · rw [if_neg c41] at H
                                              exact absurd H (by simp)
                                          · rw [if_neg c40] at H
                                            exact absurd H (by simp)
                                        · rw [if_neg c39] at H
                                          exact absurd H (by simp)
                                    · rw [if_neg c37] at H
                                      exact absurd H (by simp)
                                  · replace c36 := Bool.eq_false_iff.mpr c36
                                    subst c36
                                    have H1 : (none) = some r := by rw [if_neg (show ¬ (false = true) by decide)] at H; exact H
                                    clear H
                                    have H := H1
                                    clear H1
                                    exact absurd H (by simp)
                                · rw [if_neg c35] at H
                                  exact absurd H (by simp)
                              · rw [if_neg c34] at H
                                exact absurd H (by simp)
                            · rw [if_neg c33] at H
                              exact absurd H (by simp)
                          · rw [if_neg c32] at H
                            exact absurd H (by simp)
                        · rw [if_neg c31] at H
                          exact absurd H (by simp)
                      · rw [if_neg c30] at H
                        exact absurd H (by simp)
                    · rw [if_neg c29] at H
                      exact absurd H (by simp)
                  · rw [if_neg c28] at H
                    exact absurd H (by simp)
                · rw [if_neg c27] at H
                  exact absurd H (by simp)
              · replace c25 := Bool.eq_false_iff.mpr c25
                subst c25
                have H1 : (none) = some r := by rw [if_neg (show ¬ (false = true) by decide)] at H; exact H
                clear H
                have H := H1
                clear H1
                exact absurd H (by simp)
            · rw [if_neg c23] at H
              exact absurd H (by simp)
          · rw [if_neg c19] at H
            exact absurd H (by simp)
        · rw [if_neg c17] at H
          exact absurd H (by simp)
end Go.Proofs.YtmgeokfknehonaaDoor.Q
namespace Go.Proofs.YtmgeokfknehonaaDoor.Q
open Go.RowKit Go.Proofs.YtmgeokfknehonaaDoorW.PrintWords Go.Proofs.YtmgeokfknehonaaDoorW.PrintLast Go.Proofs.YtmgeokfknehonaaDoorW.PrintMore
attribute [local go_sem] max2_int min2_int max_two min_two max_three min_three max_four min_four   -- for this text's walks alone
set_option linter.unusedVariables false
set_option linter.unusedSimpArgs false
/-! ### mancipleref9_Get: function 16 -/
def mancipleref9_Get.l0 : Nat → List (S46) → ByteArray → Int → Option (ByteArray × ByteArray × Int × Bool)
  | 0, _, _, _ => none
  | k + 1, x0, x1, x6 => if x6 < (x0.length : Int) then (if 0 ≤ x6 then (if ((rd_T46 x0 x6).f0).toList = x1.toList then (some ((rd_T46 x0 x6).f0, (rd_T46 x0 x6).f1, (rd_T46 x0 x6).f2, true)) else (mancipleref9_Get.l0 k x0 x1 (wrap64 (x6 + 1)))) else (none)) else (some ((⟨#[]⟩ : ByteArray), (⟨#[]⟩ : ByteArray), 0, false))
def mancipleref9_Get.f (k : Nat) (l0 : List (S46)) (a1 : ByteArray) : Option (ByteArray × ByteArray × Int × Bool) := mancipleref9_Get.l0 k l0 a1 0
theorem mancipleref9_Get.mono_l : ∀ k, (∀ y0 y1 y2, LeO (mancipleref9_Get.l0 k y0 y1 y2) (mancipleref9_Get.l0 (k + 1) y0 y1 y2))
  | 0 => fun _ _ _ r h => by simp [mancipleref9_Get.l0] at h
  | k + 1 => by
    have ih0 := mancipleref9_Get.mono_l k
    · intro y0 y1 y2
      unfold mancipleref9_Get.l0
      repeat' first
      | (with_reducible exact ih0 _ _ _)
      | (with_reducible exact LeO.refl _)
      | (with_reducible exact LeO.none _)
      | (with_reducible refine LeO.ite ?_ ?_)
      | (with_reducible refine LeO.bind ?_ (fun _ => ?_))
      | exact ih0 _ _ _
      | exact LeO.none _
      | refine LeO.ite ?_ ?_
      | refine LeO.bind ?_ (fun _ => ?_)
theorem mancipleref9_Get.mono : ∀ a0 a1 k, LeO (mancipleref9_Get.f k a0 a1) (mancipleref9_Get.f (k + 1) a0 a1) := by
  intro a0 a1 k
  have ih0 := mancipleref9_Get.mono_l k
  unfold mancipleref9_Get.f
  repeat' first
      | (with_reducible exact ih0 _ _ _)
      | (with_reducible exact LeO.refl _)
      | (with_reducible exact LeO.none _)
      | (with_reducible refine LeO.ite ?_ ?_)
      | (with_reducible refine LeO.bind ?_ (fun _ => ?_))
      | exact ih0 _ _ _
      | exact LeO.none _
      | refine LeO.ite ?_ ?_
      | refine LeO.bind ?_ (fun _ => ?_)
set_option maxHeartbeats 8000000 in
set_option maxRecDepth 100000 in
theorem mancipleref9_Get.calls (k : Nat) (A0 : Option Addr) (c0 : Nat) (l0 : List (S46)) (a1 : ByteArray) (r1 : ByteArray) (r2 : ByteArray) (r3 : Int) (r4 : Bool) (w : World) (hr0 : Kd.C k46 w A0 l0.length l0) (hc0 : l0.length ≤ c0) (h : mancipleref9_Get.f k l0 a1 = some (r1, r2, r3, r4)) :
    Calls Tryd.prog 16 #[.slice A0 l0.length c0, .string a1] w fun e w' => e = .returned (.tuple #[.agg #[.string r1, .string r2, .int .i64 r3], .bool r4]) ∧ Below w.heap.size w w' := by
  have hu46 := Tryd.underlying46
  have HR0 := Aside0.mk hr0
  have HC0 := Aside0.mk hc0
  clear hr0 hc0
  have HB := Aside0.mk (Below.refl w.heap.size w)
  have H : (mancipleref9_Get.l0 k l0 a1 0) = some (r1, r2, r3, r4) := h
  clear h
  have H' := Aside0.mk H
  clear H
  go_enter Tryd.func16, Tryd.ntmps16
  go_wp2_with (first | ((with_reducible refine gate_dst (N := 4) rfl ?_); refine box_event ?hg (N := 4) ?hd (cs := #[.string (⟨#[]⟩ : ByteArray), .string (⟨#[]⟩ : ByteArray), .int .i64 0]) (t := 46) ?hr ?_; (case hd => rfl); (case hg => rfl); (case hr => first | (go_simp; done) | (go_simp; rfl)); intro gb262 hg w3 hbox hb; have n0_ := Aside0.mk (below_step (by repeat (first | (with_reducible first | exact HB.out | apply below_alloc | apply pw_below_drewN | apply below_drew1) | exact HB.out)) hb); have n1_ := Aside0.mk (hbox); have n2_ := Aside0.mk ((by rw [hg]; exact (below_size (by repeat (first | (with_reducible first | exact HB.out | apply below_alloc | apply pw_below_drewN | apply below_drew1) | exact HB.out))) : w.heap.size ≤ gb262)); have n3_ := Aside0.mk ((by rw [hg]; exact (below_size (by repeat (first | (with_reducible first | exact HB.out | apply below_alloc | apply pw_below_drewN | apply below_drew1) | exact HB.out))) : w.heap.size ≤ gb262)); clear HB; have HB := n0_; have BK262 := n1_; have GW262 := n2_; have GE262 := n3_; clear n0_ n1_ n2_ n3_; clear hb hbox hg))
  go_loopg [6] k (fun kq v6 w' => ∃ (x6_1 : Int) (x263000_1 : ByteArray) (x263001_1 : ByteArray) (x263002_1 : Int), v6 = .int .i64 x6_1 ∧ Aside0 (mancipleref9_Get.l0 kq l0 a1 x6_1 = some (r1, r2, r3, r4)) ∧ Aside0 (kq ≤ k) ∧ Aside0 (w'.heap[gb262]? = some (.cells #[.string x263000_1, .string x263001_1, .int .i64 x263002_1] 46 (0, 0))) ∧ Aside0 (Below w.heap.size w w'))
  case atStart => exact ⟨(0), ((⟨#[]⟩ : ByteArray)), ((⟨#[]⟩ : ByteArray)), (0), (by first | rfl | (simp; done) | (simp [*]; done)), H', ⟨Nat.le_refl _⟩, ⟨by (with_reducible repeat (first | refine blk_drewN ?_ _ | refine blk_drew ?_ | refine blk_alloc ?_ _)); exact BK262.out⟩, ⟨by repeat (first | (with_reducible first | exact HB.out | apply below_alloc | apply pw_below_drewN | apply below_drew1 | refine below_set ?_ GE262.out) | exact HB.out)⟩⟩
  case round =>
    clear H'
    try clear c1
    try clear p2
    obtain ⟨x6_1, x263000_1, x263001_1, x263002_1, rfl, HA, HK1, BK262, HB⟩ := hrel
    cases gk with
    | zero => exact absurd HA.out (by simp [mancipleref9_Get.l0])
    | succ k1 =>
      have H := HA.out
      clear HA
      simp only [mancipleref9_Get.l0] at H
      by_cases c4 : x6_1 < (l0.length : Int)
      · rw [if_pos c4] at H
        have c4b0 : decide (x6_1 < (l0.length : Int)) = true := decide_eq_true c4
        clear c4
        by_cases c5 : 0 ≤ x6_1
        · rw [if_pos c5] at H
          have c5b0 : decide (0 ≤ x6_1) = true := decide_eq_true c5
          clear c5
          by_cases c6 : ((rd_T46 l0 x6_1).f0).toList = a1.toList
          · rw [if_pos c6] at H
            have c6b0 : (((rd_T46 l0 x6_1).f0).toList == a1.toList) = true := beq_iff_eq.mpr c6
            have c6b1 : (((rd_T46 l0 x6_1).f0).toList != a1.toList) = false := bne_eq_false_iff_eq.mpr c6
            clear c6
            simp only [Option.some.injEq, Prod.mk.injEq] at H
            obtain ⟨rfl, rfl, rfl, rfl⟩ := H
            have p263 : 0 ≤ (x6_1 : Int) := of_decide_eq_true (by first | (with_reducible assumption) | assumption)
            have q263 : x6_1 < (l0.length : Int) := of_decide_eq_true (by first | (with_reducible assumption) | assumption)
            obtain ⟨ad263, e263, hx263_0, hx263_1, hx263_2⟩ := at_T46 HR0.out x6_1 p263 q263
            cases e263
            replace hx263_0 := (HB.out.cell (World.block_lt_of_cell? w _ hx263_0)).trans hx263_0
            replace hx263_1 := (HB.out.cell (World.block_lt_of_cell? w _ hx263_1)).trans hx263_1
            replace hx263_2 := (HB.out.cell (World.block_lt_of_cell? w _ hx263_2)).trans hx263_2
            replace p263 := eq_true p263
            replace q263 := eq_true q263
            have p264 : 0 ≤ (x6_1 : Int) := of_decide_eq_true (by first | (with_reducible assumption) | assumption)
            have q264 : x6_1 < (l0.length : Int) := of_decide_eq_true (by first | (with_reducible assumption) | assumption)
            obtain ⟨ad264, e264, hx264_0, hx264_1, hx264_2⟩ := at_T46 HR0.out x6_1 p264 q264
            obtain rfl : ad263 = ad264 := (by injection e264)
            replace hx264_0 := (HB.out.cell (World.block_lt_of_cell? w _ hx264_0)).trans hx264_0
            replace hx264_1 := (HB.out.cell (World.block_lt_of_cell? w _ hx264_1)).trans hx264_1
            replace hx264_2 := (HB.out.cell (World.block_lt_of_cell? w _ hx264_2)).trans hx264_2
            replace p264 := eq_true p264
            replace q264 := eq_true q264
            have hcz7_0 : wr.cell? ⟨gb262, 0, none⟩ = some (.string x263000_1) := (blk_cell BK262.out 0).trans rfl
            have hcz7_1 : wr.cell? ⟨gb262, 1, none⟩ = some (.string x263001_1) := (blk_cell BK262.out 1).trans rfl
            have hcz7_2 : wr.cell? ⟨gb262, 2, none⟩ = some (.int .i64 x263002_1) := (blk_cell BK262.out 2).trans rfl
            have hfz7_0 := blk_frozen BK262.out 0
            have hfz7_1 := blk_frozen BK262.out 1
            have hfz7_2 := blk_frozen BK262.out 2
            go_wp2
            refine bodyPost_ret (results_ct rfl _ _ gb262 46 #[.string ((rd_T46 l0 x6_1).f0), .string ((rd_T46 l0 x6_1).f1), .int .i64 ((rd_T46 l0 x6_1).f2)] (0, 0) _ rfl (by (with_reducible repeat (first | refine blk_drewN ?_ _ | refine blk_drew ?_ | refine blk_alloc ?_ _)); refine blk_put (cs := #[.string ((rd_T46 l0 x6_1).f0), .string ((rd_T46 l0 x6_1).f1), .int .i64 x263002_1]) ?_ 2 _ rfl; (with_reducible repeat (first | refine blk_drewN ?_ _ | refine blk_drew ?_ | refine blk_alloc ?_ _)); refine blk_put (cs := #[.string ((rd_T46 l0 x6_1).f0), .string x263001_1, .int .i64 x263002_1]) ?_ 1 _ rfl; (with_reducible repeat (first | refine blk_drewN ?_ _ | refine blk_drew ?_ | refine blk_alloc ?_ _)); refine blk_put (cs := #[.string x263000_1, .string x263001_1, .int .i64 x263002_1]) ?_ 0 _ rfl; (with_reducible repeat (first | refine blk_drewN ?_ _ | refine blk_drew ?_ | refine blk_alloc ?_ _)); exact BK262.out) Tryd.underlying46 rfl (by kernel_rfl)) rfl ?_
            exact ⟨by first | rfl | (simp [errW_none, errW_some] <;> rfl) | (simp [*, errW_none, errW_some] <;> rfl), by repeat (first | (with_reducible first | exact HB.out | apply below_alloc | apply pw_below_drewN | apply below_drew1 | refine below_set ?_ GE262.out) | exact HB.out)⟩
          · rw [if_neg c6] at H
            have c6b0 : (((rd_T46 l0 x6_1).f0).toList == a1.toList) = false := beq_eq_false_iff_ne.mpr c6
            have c6b1 : (((rd_T46 l0 x6_1).f0).toList != a1.toList) = true := bne_iff_ne.mpr c6
            have H' := Aside0.mk H
            clear H
            have p263 : 0 ≤ (x6_1 : Int) := of_decide_eq_true (by first | (with_reducible assumption) | assumption)
            have q263 : x6_1 < (l0.length : Int) := of_decide_eq_true (by first | (with_reducible assumption) | assumption)
            obtain ⟨ad263, e263, hx263_0, hx263_1, hx263_2⟩ := at_T46 HR0.out x6_1 p263 q263
            cases e263
            replace hx263_0 := (HB.out.cell (World.block_lt_of_cell? w _ hx263_0)).trans hx263_0
            replace hx263_1 := (HB.out.cell (World.block_lt_of_cell? w _ hx263_1)).trans hx263_1
            replace hx263_2 := (HB.out.cell (World.block_lt_of_cell? w _ hx263_2)).trans hx263_2
            replace p263 := eq_true p263
            replace q263 := eq_true q263
            go_wp2
            go_roundg k1
            case measure => have := HK1.out; omega
            case rel => exact ⟨(wrap64 (x6_1 + 1)), (x263000_1), (x263001_1), (x263002_1), (by first | rfl | (simp; done) | (simp [*]; done)), H', ⟨by have := HK1.out; omega⟩, ⟨by (with_reducible repeat (first | refine blk_drewN ?_ _ | refine blk_drew ?_ | refine blk_alloc ?_ _)); exact BK262.out⟩, ⟨by repeat (first | (with_reducible first | exact HB.out | apply below_alloc | apply pw_below_drewN | apply below_drew1 | refine below_set ?_ GE262.out) | exact HB.out)⟩⟩
        · rw [if_neg c5] at H
          exact absurd H (by simp)
      · rw [if_neg c4] at H
        have c4b0 : decide (x6_1 < (l0.length : Int)) = false := decide_eq_false c4
        clear c4
        simp only [Option.some.injEq, Prod.mk.injEq] at H
        obtain ⟨rfl, rfl, rfl, rfl⟩ := H
        have hcz8_0 : wr.cell? ⟨gb262, 0, none⟩ = some (.string x263000_1) := (blk_cell BK262.out 0).trans rfl
        have hcz8_1 : wr.cell? ⟨gb262, 1, none⟩ = some (.string x263001_1) := (blk_cell BK262.out 1).trans rfl
        have hcz8_2 : wr.cell? ⟨gb262, 2, none⟩ = some (.int .i64 x263002_1) := (blk_cell BK262.out 2).trans rfl
        have hfz8_0 := blk_frozen BK262.out 0
        have hfz8_1 := blk_frozen BK262.out 1
        have hfz8_2 := blk_frozen BK262.out 2
        go_wp2
        refine bodyPost_ret (results_ct rfl _ _ gb262 46 #[.string (⟨#[]⟩ : ByteArray), .string (⟨#[]⟩ : ByteArray), .int .i64 0] (0, 0) _ rfl (by (with_reducible repeat (first | refine blk_drewN ?_ _ | refine blk_drew ?_ | refine blk_alloc ?_ _)); refine blk_put (cs := #[.string (⟨#[]⟩ : ByteArray), .string (⟨#[]⟩ : ByteArray), .int .i64 x263002_1]) ?_ 2 _ rfl; (with_reducible repeat (first | refine blk_drewN ?_ _ | refine blk_drew ?_ | refine blk_alloc ?_ _)); refine blk_put (cs := #[.string (⟨#[]⟩ : ByteArray), .string x263001_1, .int .i64 x263002_1]) ?_ 1 _ rfl; (with_reducible repeat (first | refine blk_drewN ?_ _ | refine blk_drew ?_ | refine blk_alloc ?_ _)); refine blk_put (cs := #[.string x263000_1, .string x263001_1, .int .i64 x263002_1]) ?_ 0 _ rfl; (with_reducible repeat (first | refine blk_drewN ?_ _ | refine blk_drew ?_ | refine blk_alloc ?_ _)); exact BK262.out) Tryd.underlying46 rfl (by kernel_rfl)) rfl ?_
        exact ⟨by first | rfl | (simp [errW_none, errW_some] <;> rfl) | (simp [*, errW_none, errW_some] <;> rfl), by repeat (first | (with_reducible first | exact HB.out | apply below_alloc | apply pw_below_drewN | apply below_drew1 | refine below_set ?_ GE262.out) | exact HB.out)⟩
end Go.Proofs.YtmgeokfknehonaaDoor.Q
namespace Go.Proofs.YtmgeokfknehonaaDoor.Q
open Go.RowKit Go.Proofs.YtmgeokfknehonaaDoorW.PrintWords Go.Proofs.YtmgeokfknehonaaDoorW.PrintLast Go.Proofs.YtmgeokfknehonaaDoorW.PrintMore
attribute [local go_sem] max2_int min2_int max_two min_two max_three min_three max_four min_four   -- for this text's walks alone
set_option linter.unusedVariables false
set_option linter.unusedSimpArgs false
/-! ### mancipleref9_Rows: function 24 -/
mutual
def mancipleref9_Rows.j0 : Nat → ByteArray → Bool → Option (List ByteArray × Bool)
  | 0, _, _ => none
  | k + 1, x0, x16 => if x16 = true then (some (([] : List ByteArray), false)) else (mancipleref9_Rows.l0 k x0 ([] : List ByteArray) 0 0)
def mancipleref9_Rows.l0 : Nat → ByteArray → List ByteArray → Int → Int → Option (List ByteArray × Bool)
  | 0, _, _, _, _ => none
  | k + 1, x0, x4, x5, x6 => if x6 < (x0.size : Int) then (if 0 ≤ x6 then (if (bt x0 x6) = 10 then (if 0 ≤ x5 then (if x5 ≤ x6 then (if x6 ≤ (x0.size : Int) then (if x4.length < 8796093022208 then (mancipleref9_Rows.l0 k x0 (x4 ++ [(x0.extract (x5 : Int).toNat (x6 : Int).toNat)]) (wrap64 (x6 + 1)) (wrap64 (x6 + 1))) else (none)) else (none)) else (none)) else (none)) else (mancipleref9_Rows.l0 k x0 x4 x5 (wrap64 (x6 + 1)))) else (none)) else (some (x4, true))
end
def mancipleref9_Rows.f (k : Nat) (a0 : ByteArray) : Option (List ByteArray × Bool) := if a0.toList = ([] : List UInt8) then (mancipleref9_Rows.j0 k a0 false) else (if 0 ≤ (wrap64 ((a0.size : Int) - 1)) then (if (wrap64 ((a0.size : Int) - 1)) < (a0.size : Int) then (mancipleref9_Rows.j0 k a0 ((bt a0 (wrap64 ((a0.size : Int) - 1))) != 10)) else (none)) else (none))
theorem mancipleref9_Rows.mono_l : ∀ k, (∀ y0 y1, LeO (mancipleref9_Rows.j0 k y0 y1) (mancipleref9_Rows.j0 (k + 1) y0 y1)) ∧ (∀ y0 y1 y2 y3, LeO (mancipleref9_Rows.l0 k y0 y1 y2 y3) (mancipleref9_Rows.l0 (k + 1) y0 y1 y2 y3))
  | 0 => ⟨fun _ _ r h => by simp [mancipleref9_Rows.j0] at h, fun _ _ _ _ r h => by simp [mancipleref9_Rows.l0] at h⟩
  | k + 1 => by
    obtain ⟨ih0, ih1⟩ := mancipleref9_Rows.mono_l k
    refine ⟨?_, ?_⟩
    · intro y0 y1
      unfold mancipleref9_Rows.j0
      repeat' first
      | (with_reducible exact ih0 _ _)
      | (with_reducible exact ih1 _ _ _ _)
      | (with_reducible exact LeO.refl _)
      | (with_reducible exact LeO.none _)
      | (with_reducible refine LeO.ite ?_ ?_)
      | (with_reducible refine LeO.bind ?_ (fun _ => ?_))
      | exact ih0 _ _
      | exact ih1 _ _ _ _
      | exact LeO.none _
      | refine LeO.ite ?_ ?_
      | refine LeO.bind ?_ (fun _ => ?_)
    · intro y0 y1 y2 y3
      unfold mancipleref9_Rows.l0
      repeat' first
      | (with_reducible exact ih0 _ _)
      | (with_reducible exact ih1 _ _ _ _)
      | (with_reducible exact LeO.refl _)
      | (with_reducible exact LeO.none _)
      | (with_reducible refine LeO.ite ?_ ?_)
      | (with_reducible refine LeO.bind ?_ (fun _ => ?_))
      | exact ih0 _ _
      | exact ih1 _ _ _ _
      | exact LeO.none _
      | refine LeO.ite ?_ ?_
      | refine LeO.bind ?_ (fun _ => ?_)
theorem mancipleref9_Rows.mono : ∀ a0 k, LeO (mancipleref9_Rows.f k a0) (mancipleref9_Rows.f (k + 1) a0) := by
  intro a0 k
  obtain ⟨ih0, ih1⟩ := mancipleref9_Rows.mono_l k
  unfold mancipleref9_Rows.f
  repeat' first
      | (with_reducible exact ih0 _ _)
      | (with_reducible exact ih1 _ _ _ _)
      | (with_reducible exact LeO.refl _)
      | (with_reducible exact LeO.none _)
      | (with_reducible refine LeO.ite ?_ ?_)
      | (with_reducible refine LeO.bind ?_ (fun _ => ?_))
      | exact ih0 _ _
      | exact ih1 _ _ _ _
      | exact LeO.none _
      | refine LeO.ite ?_ ?_
      | refine LeO.bind ?_ (fun _ => ?_)
set_option maxHeartbeats 8000000 in
set_option maxRecDepth 100000 in
theorem mancipleref9_Rows.calls (k : Nat) (a0 : ByteArray) (r1 : List ByteArray) (r2 : Bool) (w : World) (h : mancipleref9_Rows.f k a0 = some (r1, r2)) :
    Calls Tryd.prog 24 #[.string a0] w fun e w' => ∃ v0_ : Value, e = .returned (.tuple #[v0_, .bool r2]) ∧ Kd.R Kd.string 9 w' w.heap.size (fun _ => True) v0_ r1 ∧ Below w.heap.size w w' := by
  have HB := Aside0.mk (Below.refl w.heap.size w)
  have H : (if a0.toList = ([] : List UInt8) then (mancipleref9_Rows.j0 k a0 false) else (if 0 ≤ (wrap64 ((a0.size : Int) - 1)) then (if (wrap64 ((a0.size : Int) - 1)) < (a0.size : Int) then (mancipleref9_Rows.j0 k a0 ((bt a0 (wrap64 ((a0.size : Int) - 1))) != 10)) else (none)) else (none))) = some (r1, r2) := h
  clear h
  have HC2 := Aside0.mk H
  clear H
  go_enter Tryd.func24, Tryd.ntmps24
  go_upto_region 1 with (fail)
  go_cut [16] (fun v16 wc => ∃ (kq : Nat) (x16_1 : Bool), v16 = .bool x16_1 ∧ Aside0 (mancipleref9_Rows.j0 kq a0 x16_1 = some (r1, r2)) ∧ Aside0 (kq ≤ k) ∧ Aside0 (Below w.heap.size w wc))
  case first =>
    have H := HC2.out
    clear HC2
    by_cases c3 : a0.toList = ([] : List UInt8)
    · rw [if_pos c3] at H
      have c3b0 : (a0.toList == ([] : List UInt8)) = true := beq_iff_eq.mpr c3
      have c3b1 : (a0.toList != ([] : List UInt8)) = false := bne_eq_false_iff_eq.mpr c3
      have c3b2 : a0.toList.isEmpty = true := List.isEmpty_iff.mpr c3
      clear c3
      (first | rw [c3b0] | (simp only [i64_w, i32_w]; rw [c3b0]) | rw [c3b2] | skip)
      have H' := Aside0.mk H
      clear H
      go_wp2
      go_meet
      case rel => exact ⟨_, (false), (by first | rfl | (simp; done) | (simp [*]; done)), H', ⟨by first | omega | exact Nat.le_refl _⟩, ⟨by repeat (first | (with_reducible first | exact HB.out | apply below_alloc | apply pw_below_drewN | apply below_drew1) | exact HB.out)⟩⟩
    · rw [if_neg c3] at H
      have c3b0 : (a0.toList == ([] : List UInt8)) = false := beq_eq_false_iff_ne.mpr c3
      have c3b1 : (a0.toList != ([] : List UInt8)) = true := bne_iff_ne.mpr c3
      have c3b2 : a0.toList.isEmpty = false := Bool.eq_false_iff.mpr (fun h_ => c3 (List.isEmpty_iff.mp h_))
      (first | rw [c3b0] | (simp only [i64_w, i32_w]; rw [c3b0]) | rw [c3b2] | skip)
      obtain ⟨ji4, hji4⟩ : ∃ j_ : Int, (wrap64 ((a0.size : Int) - 1)) = j_ := ⟨_, rfl⟩
      replace H : (if 0 ≤ (ji4) then (if (ji4) < (a0.size : Int) then (mancipleref9_Rows.j0 k a0 ((bt a0 (ji4)) != 10)) else (none)) else (none)) = some (r1, r2) := by first | (rw [hji4] at H; exact H) | (simp only [hji4] at H ⊢; exact H)
      have hji4w : (IntKind.i64.wrap ((a0.size : Int) - 1)) = ji4 := (i64_w _).trans hji4
      by_cases c5 : 0 ≤ (ji4)
      · rw [if_pos c5] at H
        have c5b0 : decide (0 ≤ (ji4)) = true := decide_eq_true c5
        clear c5
        by_cases c6 : (ji4) < (a0.size : Int)
        · rw [if_pos c6] at H
          have c6b0 : decide ((ji4) < (a0.size : Int)) = true := decide_eq_true c6
          clear c6
          have H' := Aside0.mk H
          clear H
          have p7 : 0 ≤ ((ji4) : Int) := of_decide_eq_true (by first | (with_reducible assumption) | assumption)
          have q7 : (ji4) < (a0.size : Int) := of_decide_eq_true (by first | (with_reducible assumption) | assumption)
          have hx7 := bt_at a0 (ji4)
          replace p7 := eq_true p7
          replace q7 := eq_true q7
          go_wp2
          go_meet
          case rel => exact ⟨_, (((bt a0 (ji4)) != 10)), (by first | rfl | (simp; done) | (simp only [← hji4] <;> (first | rfl | simp)) | (simp [*]; done)), H', ⟨by first | omega | exact Nat.le_refl _⟩, ⟨by repeat (first | (with_reducible first | exact HB.out | apply below_alloc | apply pw_below_drewN | apply below_drew1) | exact HB.out)⟩⟩
        · rw [if_neg c6] at H
          exact absurd H (by simp)
      · rw [if_neg c5] at H
        exact absurd H (by simp)
  case rest =>
    clear HC2
    try clear c2
    try clear p2
    try clear c3
    try clear c3b0
    try clear c3b1
    try clear c3b2
    try clear c5
    try clear c5b0
    try clear c6
    try clear c6b0
    try clear p6
    try clear p7
    try clear q7
    try clear hx7
    try clear p7
    try clear q7
    obtain ⟨kq, x16_1, rfl, HA, HJ1, HB⟩ := hcut
    cases kq with
    | zero => exact absurd HA.out (by simp [mancipleref9_Rows.j0])
    | succ kj1 =>
      have H := HA.out
      clear HA
      simp only [mancipleref9_Rows.j0] at H
      by_cases c8 : x16_1 = true
      · subst c8
        have H1 : (some (([] : List ByteArray), false)) = some (r1, r2) := by rw [if_pos rfl] at H; exact H
        clear H
        have H := H1
        clear H1
        simp only [Option.some.injEq, Prod.mk.injEq] at H
        obtain ⟨rfl, rfl⟩ := H
        go_wp2
        go_ret2
        exact ⟨_, by first | rfl | (simp [errW_none, errW_some] <;> rfl) | (simp [*, errW_none, errW_some] <;> rfl), by first | exact Kd.R_nil _ _ _ _ _ | exact Kd.N_nil _ _ _ _ _ | exact Kd.V_nil _ _ _ _ _ | exact Kd.Q_nil _ _ _ _ _ | exact Kd.S_nil _ _ _ _ _, by repeat (first | (with_reducible first | exact HB.out | apply below_alloc | apply pw_below_drewN | apply below_drew1) | exact HB.out)⟩
      · replace c8 := Bool.eq_false_iff.mpr c8
        subst c8
        have H1 : (mancipleref9_Rows.l0 kj1 a0 ([] : List ByteArray) 0 0) = some (r1, r2) := by rw [if_neg (show ¬ (false = true) by decide)] at H; exact H
        clear H
        have H := H1
        clear H1
        have H' := Aside0.mk H
        clear H
        go_wp2
        go_loopg [4, 5, 6] kj1 (fun kq v4 v5 v6 w' => ∃ (x4_2 : List ByteArray) (x5_2 : Int) (x6_2 : Int), v5 = .int .i64 x5_2 ∧ v6 = .int .i64 x6_2 ∧ Aside0 (mancipleref9_Rows.l0 kq a0 x4_2 x5_2 x6_2 = some (r1, r2)) ∧ Aside0 (kq ≤ kj1) ∧ Aside0 (Kd.R Kd.string 9 w' w.heap.size (fun _ => True) v4 x4_2) ∧ Aside0 (Below w.heap.size w w'))
        case atStart => exact ⟨(([] : List ByteArray)), (0), (0), (by first | rfl | (simp; done) | (simp [*]; done)), (by first | rfl | (simp; done) | (simp [*]; done)), H', ⟨Nat.le_refl _⟩, ⟨by first | exact Kd.R_nil _ _ _ _ _ | exact Kd.N_nil _ _ _ _ _ | exact Kd.V_nil _ _ _ _ _ | exact Kd.Q_nil _ _ _ _ _ | exact Kd.S_nil _ _ _ _ _⟩, ⟨by repeat (first | (with_reducible first | exact HB.out | apply below_alloc | apply pw_below_drewN | apply below_drew1) | exact HB.out)⟩⟩
        case round =>
          clear H'
          try clear c2
          try clear p2
          try clear c3
          try clear c3b0
          try clear c3b1
          try clear c3b2
          try clear c5
          try clear c5b0
          try clear c6
          try clear c6b0
          try clear p6
          try clear p7
          try clear q7
          try clear hx7
          try clear c8
          try clear p2
          try clear p6
          try clear p7
          try clear q7
          obtain ⟨x4_2, x5_2, x6_2, rfl, rfl, HA, HK2, HO_4, HB⟩ := hrel
          cases gk with
          | zero => exact absurd HA.out (by simp [mancipleref9_Rows.l0])
          | succ k2 =>
            have H := HA.out
            clear HA
            simp only [mancipleref9_Rows.l0] at H
            by_cases c9 : x6_2 < (a0.size : Int)
            · rw [if_pos c9] at H
              have c9b0 : decide (x6_2 < (a0.size : Int)) = true := decide_eq_true c9
              clear c9
              by_cases c10 : 0 ≤ x6_2
              · rw [if_pos c10] at H
                have c10b0 : decide (0 ≤ x6_2) = true := decide_eq_true c10
                clear c10
                by_cases c12 : (bt a0 x6_2) = 10
                · rw [if_pos c12] at H
                  have c12b0 : ((bt a0 x6_2) == 10) = true := beq_iff_eq.mpr c12
                  have c12b1 : ((bt a0 x6_2) != 10) = false := bne_eq_false_iff_eq.mpr c12
                  clear c12
                  by_cases c13 : 0 ≤ x5_2
                  · rw [if_pos c13] at H
                    have c13b0 := eq_true c13
                    have c13b1 : decide (0 ≤ x5_2) = true := decide_eq_true c13
                    clear c13
                    by_cases c14 : x5_2 ≤ x6_2
                    · rw [if_pos c14] at H
                      have c14b0 := eq_true c14
                      have c14b1 : decide (x5_2 ≤ x6_2) = true := decide_eq_true c14
                      clear c14
                      by_cases c15 : x6_2 ≤ (a0.size : Int)
                      · rw [if_pos c15] at H
                        have c15b0 := eq_true c15
                        have c15b1 : decide (x6_2 ≤ (a0.size : Int)) = true := decide_eq_true c15
                        clear c15
                        obtain ⟨y265, hy265⟩ : ∃ y_ : ByteArray, y_ = (a0.extract (x5_2 : Int).toNat (x6_2 : Int).toNat) := ⟨_, rfl⟩
                        replace H : (if x4_2.length < 8796093022208 then (mancipleref9_Rows.l0 k2 a0 (x4_2 ++ [y265]) (wrap64 (x6_2 + 1)) (wrap64 (x6_2 + 1))) else (none)) = some (r1, r2) := by first | (rw [hy265]; with_reducible exact H) | (have H2_ := (Option.bind_some _ _).symm.trans H; rw [hy265]; with_reducible exact H2_) | (have H2_ := (Option.bind_some _ _).symm.trans H; with_reducible exact H2_) | with_reducible exact H | (rw [hy265]; exact H) | exact H
                        have Ny265 := Aside0.mk hy265
                        clear hy265
                        have Ey265 : a0.extract (x5_2 : Int).toNat (x6_2 : Int).toNat = y265 := Ny265.out.symm
                        by_cases c16 : x4_2.length < 8796093022208
                        · rw [if_pos c16] at H
                          have LMc16 := Aside0.mk c16
                          clear c16
                          obtain ⟨y266, hy266⟩ : ∃ y_ : List ByteArray, y_ = (x4_2 ++ [y265]) := ⟨_, rfl⟩
                          replace H : (mancipleref9_Rows.l0 k2 a0 y266 (wrap64 (x6_2 + 1)) (wrap64 (x6_2 + 1))) = some (r1, r2) := by first | (rw [hy266]; with_reducible exact H) | (have H2_ := (Option.bind_some _ _).symm.trans H; rw [hy266]; with_reducible exact H2_) | (have H2_ := (Option.bind_some _ _).symm.trans H; with_reducible exact H2_) | with_reducible exact H | (rw [hy266]; exact H) | exact H
                          have Ny266 := Aside0.mk hy266
                          clear hy266
                          have H' := Aside0.mk H
                          clear H
                          have p11 : 0 ≤ (x6_2 : Int) := of_decide_eq_true (by first | (with_reducible assumption) | assumption)
                          have q11 : x6_2 < (a0.size : Int) := of_decide_eq_true (by first | (with_reducible assumption) | assumption)
                          have hx11 := bt_at a0 x6_2
                          replace p11 := eq_true p11
                          replace q11 := eq_true q11
                          go_wp2_with (first | ((with_reducible refine gate_builtin (b := .append) (xs := #[.tmp 27, .tmp 32]) rfl ?_); (try (refine gate_guard (by rfl) ?_; dsimp only)); at_builtin; refine Kd.R_append Kd.string (w0 := w) w.heap.size rfl (.tmp 27) (.tmp 32) 34 9 (.string ⟨#[]⟩) 16 rfl Tryd.underlying34 info9 rfl (by decide) (by omega) u4 x4_2 y265 [.string y265] (fun _ => True) (fun _ => False) rfl rfl ?aP (fun _ hk => hk.elim) ?aF ?aO ?aB ?aS ?aL ?_; (case aP => exact rfl); (case aB => exact (by repeat (first | (with_reducible first | exact HB.out | apply below_alloc | apply pw_below_drewN | apply below_drew1) | exact HB.out))); (case aF => exact (fun _ _ => trivial)); (case aO => exact (by (with_reducible repeat (first | apply Kd.R_alloc | apply Kd.R_drewN | apply Kd.R_drew)); exact HO_4.out)); (case aS => exact (below_size (by repeat (first | (with_reducible first | exact HB.out | apply below_alloc | apply pw_below_drewN | apply below_drew1) | exact HB.out)))); (case aL => have := LMc16.out; omega); intro v267 w17 ho hb hg hat; rw [← Ny266.out] at ho; have n0_ := Aside0.mk (hb); have n1_ := Aside0.mk (ho); clear HB; clear HO_4; have HB := n0_; have HO268 := n1_; clear n0_ n1_; clear ho hb hg hat))
                          go_roundg k2
                          case measure => have := HJ1.out; have := HK2.out; omega
                          case rel => exact ⟨(y266), (wrap64 (x6_2 + 1)), (wrap64 (x6_2 + 1)), (by first | rfl | (simp; done) | (simp [*]; done)), (by first | rfl | (simp; done) | (simp [*]; done)), H', ⟨by have := HJ1.out; have := HK2.out; omega⟩, ⟨by (with_reducible repeat (first | apply Kd.R_alloc | apply Kd.R_drewN | apply Kd.R_drew)); exact HO268.out⟩, ⟨by repeat (first | (with_reducible first | exact HB.out | apply below_alloc | apply pw_below_drewN | apply below_drew1) | exact HB.out)⟩⟩
                        · rw [if_neg c16] at H
                          exact absurd H (by simp)
                      · rw [if_neg c15] at H
                        exact absurd H (by simp)
                    · rw [if_neg c14] at H
                      exact absurd H (by simp)
                  · rw [if_neg c13] at H
                    exact absurd H (by simp)
                · rw [if_neg c12] at H
                  have c12b0 : ((bt a0 x6_2) == 10) = false := beq_eq_false_iff_ne.mpr c12
                  have c12b1 : ((bt a0 x6_2) != 10) = true := bne_iff_ne.mpr c12
                  have H' := Aside0.mk H
                  clear H
                  have p11 : 0 ≤ (x6_2 : Int) := of_decide_eq_true (by first | (with_reducible assumption) | assumption)
                  have q11 : x6_2 < (a0.size : Int) := of_decide_eq_true (by first | (with_reducible assumption) | assumption)
                  have hx11 := bt_at a0 x6_2
                  replace p11 := eq_true p11
                  replace q11 := eq_true q11
                  go_wp2
                  go_roundg k2
                  case measure => have := HJ1.out; have := HK2.out; omega
                  case rel => exact ⟨(x4_2), (x5_2), (wrap64 (x6_2 + 1)), (by first | rfl | (simp; done) | (simp [*]; done)), (by first | rfl | (simp; done) | (simp [*]; done)), H', ⟨by have := HJ1.out; have := HK2.out; omega⟩, ⟨by (with_reducible repeat (first | apply Kd.R_alloc | apply Kd.R_drewN | apply Kd.R_drew)); exact HO_4.out⟩, ⟨by repeat (first | (with_reducible first | exact HB.out | apply below_alloc | apply pw_below_drewN | apply below_drew1) | exact HB.out)⟩⟩
              · rw [if_neg c10] at H
                exact absurd H (by simp)
            · rw [if_neg c9] at H
              have c9b0 : decide (x6_2 < (a0.size : Int)) = false := decide_eq_false c9
              clear c9
              simp only [Option.some.injEq, Prod.mk.injEq] at H
              obtain ⟨rfl, rfl⟩ := H
              go_wp2
              go_ret2
              exact ⟨_, by first | rfl | (simp [errW_none, errW_some] <;> rfl) | (simp [*, errW_none, errW_some] <;> rfl), by (with_reducible repeat (first | apply Kd.R_alloc | apply Kd.R_drewN | apply Kd.R_drew)); exact HO_4.out, by repeat (first | (with_reducible first | exact HB.out | apply below_alloc | apply pw_below_drewN | apply below_drew1) | exact HB.out)⟩
end Go.Proofs.YtmgeokfknehonaaDoor.Q
namespace Go.Proofs.YtmgeokfknehonaaDoor.Q
open Go.RowKit Go.Proofs.YtmgeokfknehonaaDoorW.PrintWords Go.Proofs.YtmgeokfknehonaaDoorW.PrintLast Go.Proofs.YtmgeokfknehonaaDoorW.PrintMore
attribute [local go_sem] max2_int min2_int max_two min_two max_three min_three max_four min_four   -- for this text's walks alone
set_option linter.unusedVariables false
set_option linter.unusedSimpArgs false
/-! ### mancipleref9_letter: function 39 -/
def mancipleref9_letter.f (a0 : Int) : Option (Bool) := if a0 ≥ 97 then (if a0 ≤ 122 then (some true) else (if a0 ≥ 65 then (some (decide (a0 ≤ 90))) else (some false))) else (if a0 ≥ 65 then (some (decide (a0 ≤ 90))) else (some false))
set_option maxHeartbeats 8000000 in
set_option maxRecDepth 100000 in
theorem mancipleref9_letter.calls (a0 : Int) (r : Bool) (w : World) (h : mancipleref9_letter.f a0 = some r) :
    Calls Tryd.prog 39 #[.int .u8 a0] w fun e w' => e = .returned (.bool r) ∧ Drawn0 w w' := by
  have H : (if a0 ≥ 97 then (if a0 ≤ 122 then (some true) else (if a0 ≥ 65 then (some (decide (a0 ≤ 90))) else (some false))) else (if a0 ≥ 65 then (some (decide (a0 ≤ 90))) else (some false))) = some r := h
  clear h
  by_cases c2 : a0 ≥ 97
  · rw [if_pos c2] at H
    have c2b0 : decide (97 ≤ a0) = true := decide_eq_true c2
    clear c2
    by_cases c3 : a0 ≤ 122
    · rw [if_pos c3] at H
      have c3b0 : decide (a0 ≤ 122) = true := decide_eq_true c3
      clear c3
      obtain rfl := Option.some.inj H
      go_enter Tryd.func39, Tryd.ntmps39
      go_wp2
      go_ret
      exact ⟨by first | rfl | (simp; done) | (simp [*]; done), by repeat (first | exact Drawn0.refl _ | apply Drawn0.step)⟩
    · rw [if_neg c3] at H
      have c3b0 : decide (a0 ≤ 122) = false := decide_eq_false c3
      clear c3
      by_cases c4 : a0 ≥ 65
      · rw [if_pos c4] at H
        have c4b0 : decide (65 ≤ a0) = true := decide_eq_true c4
        clear c4
        obtain rfl := Option.some.inj H
        go_enter Tryd.func39, Tryd.ntmps39
        go_wp2
        go_ret
        exact ⟨by first | rfl | (simp; done) | (simp [*]; done), by repeat (first | exact Drawn0.refl _ | apply Drawn0.step)⟩
      · rw [if_neg c4] at H
        have c4b0 : decide (65 ≤ a0) = false := decide_eq_false c4
        clear c4
        obtain rfl := Option.some.inj H
        go_enter Tryd.func39, Tryd.ntmps39
        go_wp2
        go_ret
        exact ⟨by first | rfl | (simp; done) | (simp [*]; done), by repeat (first | exact Drawn0.refl _ | apply Drawn0.step)⟩
  · rw [if_neg c2] at H
    have c2b0 : decide (97 ≤ a0) = false := decide_eq_false c2
    clear c2
    by_cases c5 : a0 ≥ 65
    · rw [if_pos c5] at H
      have c5b0 : decide (65 ≤ a0) = true := decide_eq_true c5
      clear c5
      obtain rfl := Option.some.inj H
      go_enter Tryd.func39, Tryd.ntmps39
      go_wp2
      go_ret
      exact ⟨by first | rfl | (simp; done) | (simp [*]; done), by repeat (first | exact Drawn0.refl _ | apply Drawn0.step)⟩
    · rw [if_neg c5] at H
      have c5b0 : decide (65 ≤ a0) = false := decide_eq_false c5
      clear c5
      obtain rfl := Option.some.inj H
      go_enter Tryd.func39, Tryd.ntmps39
      go_wp2
      go_ret
      exact ⟨by first | rfl | (simp; done) | (simp [*]; done), by repeat (first | exact Drawn0.refl _ | apply Drawn0.step)⟩
end Go.Proofs.YtmgeokfknehonaaDoor.Q
namespace Go.Proofs.YtmgeokfknehonaaDoor.Q
open Go.RowKit Go.Proofs.YtmgeokfknehonaaDoorW.PrintWords Go.Proofs.YtmgeokfknehonaaDoorW.PrintLast Go.Proofs.YtmgeokfknehonaaDoorW.PrintMore
attribute [local go_sem] max2_int min2_int max_two min_two max_three min_three max_four min_four   -- for this text's walks alone
set_option linter.unusedVariables false
set_option linter.unusedSimpArgs false
/-! ### mancipleref9_field: function 25 -/
mutual
def mancipleref9_field.j1 : Nat → ByteArray → Int → Option (ByteArray × ByteArray × Int × Bool)
  | 0, _, _ => none
  | k + 1, x0, x4 => if x4 < 1 then (mancipleref9_field.j2 k x0 x4 true) else (if x4 > 16 then (mancipleref9_field.j2 k x0 x4 true) else (if (x0.size : Int) < (wrap64 (x4 + 2)) then (mancipleref9_field.j2 k x0 x4 true) else (if 0 ≤ x4 then (if x4 < (x0.size : Int) then (if (bt x0 x4) = 58 then (if 0 ≤ (wrap64 (x4 + 1)) then (if (wrap64 (x4 + 1)) < (x0.size : Int) then (mancipleref9_field.j2 k x0 x4 ((bt x0 (wrap64 (x4 + 1))) != 32)) else (none)) else (none)) else (mancipleref9_field.j2 k x0 x4 true)) else (none)) else (none))))
def mancipleref9_field.j2 : Nat → ByteArray → Int → Bool → Option (ByteArray × ByteArray × Int × Bool)
  | 0, _, _, _ => none
  | k + 1, x0, x4, x43 => if x43 = true then (some ((⟨#[]⟩ : ByteArray), (⟨#[]⟩ : ByteArray), 0, false)) else (mancipleref9_field.l1 k x0 x4 (wrap64 (x4 + 2)))
def mancipleref9_field.l1 : Nat → ByteArray → Int → Int → Option (ByteArray × ByteArray × Int × Bool)
  | 0, _, _, _ => none
  | k + 1, x0, x4, x5 => if x5 < (x0.size : Int) then (if 0 ≤ x5 then (if (bt x0 x5) < 32 then (some ((⟨#[]⟩ : ByteArray), (⟨#[]⟩ : ByteArray), 0, false)) else (if (bt x0 x5) > 126 then (some ((⟨#[]⟩ : ByteArray), (⟨#[]⟩ : ByteArray), 0, false)) else (mancipleref9_field.l1 k x0 x4 (wrap64 (x5 + 1))))) else (none)) else (if 0 ≤ x4 then (if x4 ≤ (x0.size : Int) then (if 0 ≤ (wrap64 (x4 + 2)) then (if (wrap64 (x4 + 2)) ≤ (x0.size : Int) then (some ((x0.extract 0 (x4 : Int).toNat), (x0.extract ((wrap64 (x4 + 2)) : Int).toNat x0.size), 0, true)) else (none)) else (none)) else (none)) else (none))
def mancipleref9_field.l0 : Nat → ByteArray → Int → Option (ByteArray × ByteArray × Int × Bool)
  | 0, _, _ => none
  | k + 1, x0, x4 => if x4 < (x0.size : Int) then (if 0 ≤ x4 then ((mancipleref9_letter.f (bt x0 x4)).bind fun t270 => (if t270 = true then (mancipleref9_field.l0 k x0 (wrap64 (x4 + 1))) else (mancipleref9_field.j1 k x0 x4))) else (none)) else (mancipleref9_field.j1 k x0 x4)
end
def mancipleref9_field.f (k : Nat) (a0 : ByteArray) : Option (ByteArray × ByteArray × Int × Bool) := mancipleref9_field.l0 k a0 0
theorem mancipleref9_field.mono_l : ∀ k, (∀ y0 y1, LeO (mancipleref9_field.j1 k y0 y1) (mancipleref9_field.j1 (k + 1) y0 y1)) ∧ (∀ y0 y1 y2, LeO (mancipleref9_field.j2 k y0 y1 y2) (mancipleref9_field.j2 (k + 1) y0 y1 y2)) ∧ (∀ y0 y1 y2, LeO (mancipleref9_field.l1 k y0 y1 y2) (mancipleref9_field.l1 (k + 1) y0 y1 y2)) ∧ (∀ y0 y1, LeO (mancipleref9_field.l0 k y0 y1) (mancipleref9_field.l0 (k + 1) y0 y1))
  | 0 => ⟨fun _ _ r h => by simp [mancipleref9_field.j1] at h, fun _ _ _ r h => by simp [mancipleref9_field.j2] at h, fun _ _ _ r h => by simp [mancipleref9_field.l1] at h, fun _ _ r h => by simp [mancipleref9_field.l0] at h⟩
  | k + 1 => by
    obtain ⟨ih0, ih1, ih2, ih3⟩ := mancipleref9_field.mono_l k
    refine ⟨?_, ?_, ?_, ?_⟩
    · intro y0 y1
      unfold mancipleref9_field.j1
      repeat' first
      | (with_reducible exact ih0 _ _)
      | (with_reducible exact ih1 _ _ _)
      | (with_reducible exact ih2 _ _ _)
      | (with_reducible exact ih3 _ _)
      | (with_reducible exact LeO.refl _)
      | (with_reducible exact LeO.none _)
      | (with_reducible refine LeO.ite ?_ ?_)
      | (with_reducible refine LeO.bind ?_ (fun _ => ?_))
      | exact ih0 _ _
      | exact ih1 _ _ _
      | exact ih2 _ _ _
      | exact ih3 _ _
      | exact LeO.none _
      | refine LeO.ite ?_ ?_
      | refine LeO.bind ?_ (fun _ => ?_)
    · intro y0 y1 y2
      unfold mancipleref9_field.j2
      repeat' first
      | (with_reducible exact ih0 _ _)
      | (with_reducible exact ih1 _ _ _)
      | (with_reducible exact ih2 _ _ _)
      | (with_reducible exact ih3 _ _)
      | (with_reducible exact LeO.refl _)
      | (with_reducible exact LeO.none _)
      | (with_reducible refine LeO.ite ?_ ?_)
      | (with_reducible refine LeO.bind ?_ (fun _ => ?_))
      | exact ih0 _ _
      | exact ih1 _ _ _
      | exact ih2 _ _ _
      | exact ih3 _ _
      | exact LeO.none _
      | refine LeO.ite ?_ ?_
      | refine LeO.bind ?_ (fun _ => ?_)
    · intro y0 y1 y2
      unfold mancipleref9_field.l1
      repeat' first
      | (with_reducible exact ih0 _ _)
      | (with_reducible exact ih1 _ _ _)
      | (with_reducible exact ih2 _ _ _)
      | (with_reducible exact ih3 _ _)
      | (with_reducible exact LeO.refl _)
      | (with_reducible exact LeO.none _)
      | (with_reducible refine LeO.ite ?_ ?_)
      | (with_reducible refine LeO.bind ?_ (fun _ => ?_))
      | exact ih0 _ _
      | exact ih1 _ _ _
      | exact ih2 _ _ _
      | exact ih3 _ _
      | exact LeO.none _
      | refine LeO.ite ?_ ?_
      | refine LeO.bind ?_ (fun _ => ?_)
    · intro y0 y1
      unfold mancipleref9_field.l0
      repeat' first
      | (with_reducible exact ih0 _ _)
      | (with_reducible exact ih1 _ _ _)
      | (with_reducible exact ih2 _ _ _)
      | (with_reducible exact ih3 _ _)
      | (with_reducible exact LeO.refl _)
      | (with_reducible exact LeO.none _)
      | (with_reducible refine LeO.ite ?_ ?_)
      | (with_reducible refine LeO.bind ?_ (fun _ => ?_))
      | exact ih0 _ _
      | exact ih1 _ _ _
      | exact ih2 _ _ _
      | exact ih3 _ _
      | exact LeO.none _
      | refine LeO.ite ?_ ?_
      | refine LeO.bind ?_ (fun _ => ?_)
theorem mancipleref9_field.mono : ∀ a0 k, LeO (mancipleref9_field.f k a0) (mancipleref9_field.f (k + 1) a0) := by
  intro a0 k
  obtain ⟨ih0, ih1, ih2, ih3⟩ := mancipleref9_field.mono_l k
  unfold mancipleref9_field.f
  repeat' first
      | (with_reducible exact ih0 _ _)
      | (with_reducible exact ih1 _ _ _)
      | (with_reducible exact ih2 _ _ _)
      | (with_reducible exact ih3 _ _)
      | (with_reducible exact LeO.refl _)
      | (with_reducible exact LeO.none _)
      | (with_reducible refine LeO.ite ?_ ?_)
      | (with_reducible refine LeO.bind ?_ (fun _ => ?_))
      | exact ih0 _ _
      | exact ih1 _ _ _
      | exact ih2 _ _ _
      | exact ih3 _ _
      | exact LeO.none _
      | refine LeO.ite ?_ ?_
      | refine LeO.bind ?_ (fun _ => ?_)
def mancipleref9_field.T11 : Bool × List (List Nat × List Nat) := (true, [([], []), ([], []), ([0, 1], [0, 1]), ([], []), ([], []), ([4], [4]), ([3, 5], [3, 5]), ([2, 6], [2, 6]), ([7, 0, 1, 2, 3, 4, 5, 6, 7], [7]), ([8, 0, 1, 2, 3, 4, 5, 6, 7, 8], [])])
def mancipleref9_field.B11 : List Nat := [0, 0, 3, 0, 0, 16, 56, 127, 255, 511]
theorem mancipleref9_field.tab11 : rtab .any (opsOf Tryd.f25 11) = mancipleref9_field.T11 := by kernel_rfl
theorem mancipleref9_field.bits11 : waitsOk mancipleref9_field.T11.2 mancipleref9_field.B11 = true := by kernel_rfl
set_option maxHeartbeats 8000000 in
set_option maxRecDepth 100000 in
theorem mancipleref9_field.calls (k : Nat) (a0 : ByteArray) (r1 : ByteArray) (r2 : ByteArray) (r3 : Int) (r4 : Bool) (w : World) (h : mancipleref9_field.f k a0 = some (r1, r2, r3, r4)) :
    Calls Tryd.prog 25 #[.string a0] w fun e w' => e = .returned (.tuple #[.agg #[.string r1, .string r2, .int .i64 r3], .bool r4]) ∧ Below w.heap.size w w' := by
  have hu46 := Tryd.underlying46
  have HB := Aside0.mk (Below.refl w.heap.size w)
  have H : (mancipleref9_field.l0 k a0 0) = some (r1, r2, r3, r4) := h
  clear h
  have HC2 := Aside0.mk H
  clear H
  go_enter Tryd.func25, Tryd.ntmps25
  go_upto_block 0 with (first | ((with_reducible refine gate_dst (N := 2) rfl ?_); (try (refine gate_guard (by rfl) ?_; dsimp only)); refine box_event ?hg (N := 2) ?hd (cs := #[.string (⟨#[]⟩ : ByteArray), .string (⟨#[]⟩ : ByteArray), .int .i64 0]) (t := 46) ?hr ?_; (case hd => rfl); (case hg => rfl); (case hr => first | (go_simp; done) | (go_simp; rfl)); intro gb269 hg w3 hbox hb; have n0_ := Aside0.mk (below_step (by repeat (first | (with_reducible first | exact HB.out | apply below_alloc | apply pw_below_drewN | apply below_drew1) | exact HB.out)) hb); have n1_ := Aside0.mk (hbox); have n2_ := Aside0.mk ((by rw [hg]; exact (below_size (by repeat (first | (with_reducible first | exact HB.out | apply below_alloc | apply pw_below_drewN | apply below_drew1) | exact HB.out))) : w.heap.size ≤ gb269)); have n3_ := Aside0.mk ((by rw [hg]; exact (below_size (by repeat (first | (with_reducible first | exact HB.out | apply below_alloc | apply pw_below_drewN | apply below_drew1) | exact HB.out))) : w.heap.size ≤ gb269)); clear HB; have HB := n0_; have BK269 := n1_; have GW269 := n2_; have GE269 := n3_; clear n0_ n1_ n2_ n3_; clear hb hbox hg))
  (try simp only [Act.put, List.setIfInBounds_toArray, List.set_cons_zero, List.set_cons_succ])
  go_cut [4] (fun v4 wc => ∃ (kq : Nat) (x4_1 : Int), v4 = .int .i64 x4_1 ∧ Aside0 (mancipleref9_field.j1 kq a0 x4_1 = some (r1, r2, r3, r4)) ∧ Aside0 (kq ≤ k) ∧ Aside0 (wc.heap[gb269]? = some (.cells #[.string (⟨#[]⟩ : ByteArray), .string (⟨#[]⟩ : ByteArray), .int .i64 0] 46 (0, 0))) ∧ Aside0 (Below w.heap.size w wc))
  case first =>
    have H := HC2.out
    clear HC2
    have H' := Aside0.mk H
    clear H
    go_wp2
    go_loopg [4] k (fun kq v4 w' => ∃ (x4_1 : Int), v4 = .int .i64 x4_1 ∧ Aside0 (mancipleref9_field.l0 kq a0 x4_1 = some (r1, r2, r3, r4)) ∧ Aside0 (kq ≤ k) ∧ Aside0 (w'.heap[gb269]? = some (.cells #[.string (⟨#[]⟩ : ByteArray), .string (⟨#[]⟩ : ByteArray), .int .i64 0] 46 (0, 0))) ∧ Aside0 (Below w.heap.size w w'))
    case atStart => exact ⟨(0), (by first | rfl | (simp; done) | (simp [*]; done)), H', ⟨Nat.le_refl _⟩, ⟨by (with_reducible repeat (first | refine blk_drewN ?_ _ | refine blk_drew ?_ | refine blk_alloc ?_ _)); exact BK269.out⟩, ⟨by repeat (first | (with_reducible first | exact HB.out | apply below_alloc | apply pw_below_drewN | apply below_drew1 | refine below_set ?_ GE269.out) | exact HB.out)⟩⟩
    case round =>
      clear H'
      try clear c2
      try clear p2
      obtain ⟨x4_1, rfl, HA, HK1, BK269, HB⟩ := hrel
      cases gk with
      | zero => exact absurd HA.out (by simp [mancipleref9_field.l0])
      | succ k1 =>
        have H := HA.out
        clear HA
        simp only [mancipleref9_field.l0] at H
        by_cases c4 : x4_1 < (a0.size : Int)
        · rw [if_pos c4] at H
          have c4b0 : decide (x4_1 < (a0.size : Int)) = true := decide_eq_true c4
          clear c4
          (first | rw [c4b0] | (simp only [i64_w, i32_w]; rw [c4b0]) | rw [c4b2] | skip)
          by_cases c5 : 0 ≤ x4_1
          · rw [if_pos c5] at H
            have c5b0 : decide (0 ≤ x4_1) = true := decide_eq_true c5
            clear c5
            replace H := Option.bind_eq_some_iff.mp H
            obtain ⟨t270, A70, H⟩ := H
            replace H : (if t270 = true then (mancipleref9_field.l0 k1 a0 (wrap64 (x4_1 + 1))) else (mancipleref9_field.j1 k1 a0 x4_1)) = some (r1, r2, r3, r4) := H
            have A7 := Aside0.mk A70
            clear A70
            by_cases c8 : t270 = true
            · subst c8
              have H1 : (mancipleref9_field.l0 k1 a0 (wrap64 (x4_1 + 1))) = some (r1, r2, r3, r4) := by rw [if_pos rfl] at H; exact H
              clear H
              have H := H1
              clear H1
              have H' := Aside0.mk H
              clear H
              have p6 : 0 ≤ (x4_1 : Int) := of_decide_eq_true (by first | (with_reducible assumption) | assumption)
              have q6 : x4_1 < (a0.size : Int) := of_decide_eq_true (by first | (with_reducible assumption) | assumption)
              have hx6 := bt_at a0 x4_1
              replace p6 := eq_true p6
              replace q6 := eq_true q6
              go_wp2_with (first | (go_at_call 39; (with_reducible refine (mancipleref9_letter.calls (bt a0 x4_1) true _ A7.out).mono ?_); rintro e w' ⟨rfl, ⟨nd, rfl⟩⟩))
              go_roundg k1
              case measure => have := HK1.out; omega
              case rel => exact ⟨(wrap64 (x4_1 + 1)), (by first | rfl | (simp; done) | (simp [*]; done)), H', ⟨by have := HK1.out; omega⟩, ⟨by (with_reducible repeat (first | refine blk_drewN ?_ _ | refine blk_drew ?_ | refine blk_alloc ?_ _)); exact BK269.out⟩, ⟨by repeat (first | (with_reducible first | exact HB.out | apply below_alloc | apply pw_below_drewN | apply below_drew1 | refine below_set ?_ GE269.out) | exact HB.out)⟩⟩
            · replace c8 := Bool.eq_false_iff.mpr c8
              subst c8
              have H1 : (mancipleref9_field.j1 k1 a0 x4_1) = some (r1, r2, r3, r4) := by rw [if_neg (show ¬ (false = true) by decide)] at H; exact H
              clear H
              have H := H1
              clear H1
              have H' := Aside0.mk H
              clear H
              have p6 : 0 ≤ (x4_1 : Int) := of_decide_eq_true (by first | (with_reducible assumption) | assumption)
              have q6 : x4_1 < (a0.size : Int) := of_decide_eq_true (by first | (with_reducible assumption) | assumption)
              have hx6 := bt_at a0 x4_1
              replace p6 := eq_true p6
              replace q6 := eq_true q6
              go_wp2_with (first | (go_at_call 39; (with_reducible refine (mancipleref9_letter.calls (bt a0 x4_1) false _ A7.out).mono ?_); rintro e w' ⟨rfl, ⟨nd, rfl⟩⟩))
              go_meet
              case rel => exact ⟨_, (x4_1), (by first | rfl | (simp; done) | (simp [*]; done)), H', ⟨by have := HK1.out; first | omega | exact Nat.le_refl _⟩, ⟨by (with_reducible repeat (first | refine blk_drewN ?_ _ | refine blk_drew ?_ | refine blk_alloc ?_ _)); exact BK269.out⟩, ⟨by repeat (first | (with_reducible first | exact HB.out | apply below_alloc | apply pw_below_drewN | apply below_drew1 | refine below_set ?_ GE269.out) | exact HB.out)⟩⟩
          · rw [if_neg c5] at H
            exact absurd H (by simp)
        · rw [if_neg c4] at H
          have c4b0 : decide (x4_1 < (a0.size : Int)) = false := decide_eq_false c4
          clear c4
          (first | rw [c4b0] | (simp only [i64_w, i32_w]; rw [c4b0]) | rw [c4b2] | skip)
          have H' := Aside0.mk H
          clear H
          go_wp2
          go_meet
          case rel => exact ⟨_, (x4_1), (by first | rfl | (simp; done) | (simp [*]; done)), H', ⟨by have := HK1.out; first | omega | exact Nat.le_refl _⟩, ⟨by (with_reducible repeat (first | refine blk_drewN ?_ _ | refine blk_drew ?_ | refine blk_alloc ?_ _)); exact BK269.out⟩, ⟨by repeat (first | (with_reducible first | exact HB.out | apply below_alloc | apply pw_below_drewN | apply below_drew1 | refine below_set ?_ GE269.out) | exact HB.out)⟩⟩
  case rest =>
    clear HC2
    try clear c2
    try clear p2
    try clear c4
    try clear c4b0
    try clear c4b2
    try clear c5
    try clear c5b0
    try clear p6
    try clear q6
    try clear hx6
    try clear c8
    try clear p2
    try clear p6
    try clear q6
    obtain ⟨kq, x4_1, rfl, HA, HJ1, BK269, HB⟩ := hcut
    cases kq with
    | zero => exact absurd HA.out (by simp [mancipleref9_field.j1])
    | succ kj1 =>
      have H := HA.out
      clear HA
      simp only [mancipleref9_field.j1] at H
      have HC9 := Aside0.mk H
      clear H
      go_upto_region 4 with (fail)
      go_cut [43] (fun v43 wc => ∃ (kq : Nat) (x43_8 : Bool), v43 = .bool x43_8 ∧ Aside0 (mancipleref9_field.j2 kq a0 x4_1 x43_8 = some (r1, r2, r3, r4)) ∧ Aside0 (kq ≤ kj1) ∧ Aside0 (wc.heap[gb269]? = some (.cells #[.string (⟨#[]⟩ : ByteArray), .string (⟨#[]⟩ : ByteArray), .int .i64 0] 46 (0, 0))) ∧ Aside0 (Below w.heap.size w wc))
      case first =>
        have H := HC9.out
        clear HC9
        by_cases c10 : x4_1 < 1
        · rw [if_pos c10] at H
          have c10b0 : decide (x4_1 < 1) = true := decide_eq_true c10
          clear c10
          (first | rw [c10b0] | (simp only [i64_w, i32_w]; rw [c10b0]) | rw [c10b2] | skip)
          have H' := Aside0.mk H
          clear H
          go_wp2
          go_meet
          case rel => exact ⟨_, (true), (by first | rfl | (simp; done) | (simp [*]; done)), H', ⟨by have := HJ1.out; first | omega | exact Nat.le_refl _⟩, ⟨by (with_reducible repeat (first | refine blk_drewN ?_ _ | refine blk_drew ?_ | refine blk_alloc ?_ _)); exact BK269.out⟩, ⟨by repeat (first | (with_reducible first | exact HB.out | apply below_alloc | apply pw_below_drewN | apply below_drew1 | refine below_set ?_ GE269.out) | exact HB.out)⟩⟩
        · rw [if_neg c10] at H
          have c10b0 : decide (x4_1 < 1) = false := decide_eq_false c10
          clear c10
          (first | rw [c10b0] | (simp only [i64_w, i32_w]; rw [c10b0]) | rw [c10b2] | skip)
          by_cases c11 : x4_1 > 16
          · rw [if_pos c11] at H
            have c11b0 : decide (16 < x4_1) = true := decide_eq_true c11
            clear c11
            have H' := Aside0.mk H
            clear H
            go_wp2
            go_meet
            case rel => exact ⟨_, (true), (by first | rfl | (simp; done) | (simp [*]; done)), H', ⟨by have := HJ1.out; first | omega | exact Nat.le_refl _⟩, ⟨by (with_reducible repeat (first | refine blk_drewN ?_ _ | refine blk_drew ?_ | refine blk_alloc ?_ _)); exact BK269.out⟩, ⟨by repeat (first | (with_reducible first | exact HB.out | apply below_alloc | apply pw_below_drewN | apply below_drew1 | refine below_set ?_ GE269.out) | exact HB.out)⟩⟩
          · rw [if_neg c11] at H
            have c11b0 : decide (16 < x4_1) = false := decide_eq_false c11
            clear c11
            by_cases c12 : (a0.size : Int) < (wrap64 (x4_1 + 2))
            · rw [if_pos c12] at H
              have c12b0 : decide ((a0.size : Int) < (wrap64 (x4_1 + 2))) = true := decide_eq_true c12
              clear c12
              have H' := Aside0.mk H
              clear H
              go_wp2
              go_meet
              case rel => exact ⟨_, (true), (by first | rfl | (simp; done) | (simp [*]; done)), H', ⟨by have := HJ1.out; first | omega | exact Nat.le_refl _⟩, ⟨by (with_reducible repeat (first | refine blk_drewN ?_ _ | refine blk_drew ?_ | refine blk_alloc ?_ _)); exact BK269.out⟩, ⟨by repeat (first | (with_reducible first | exact HB.out | apply below_alloc | apply pw_below_drewN | apply below_drew1 | refine below_set ?_ GE269.out) | exact HB.out)⟩⟩
            · rw [if_neg c12] at H
              have c12b0 : decide ((a0.size : Int) < (wrap64 (x4_1 + 2))) = false := decide_eq_false c12
              clear c12
              by_cases c13 : 0 ≤ x4_1
              · rw [if_pos c13] at H
                have c13b0 : decide (0 ≤ x4_1) = true := decide_eq_true c13
                clear c13
                by_cases c14 : x4_1 < (a0.size : Int)
                · rw [if_pos c14] at H
                  have c14b0 : decide (x4_1 < (a0.size : Int)) = true := decide_eq_true c14
                  clear c14
                  by_cases c16 : (bt a0 x4_1) = 58
                  · rw [if_pos c16] at H
                    have c16b0 : ((bt a0 x4_1) == 58) = true := beq_iff_eq.mpr c16
                    have c16b1 : ((bt a0 x4_1) != 58) = false := bne_eq_false_iff_eq.mpr c16
                    clear c16
                    obtain ⟨ji17, hji17⟩ : ∃ j_ : Int, (wrap64 (x4_1 + 1)) = j_ := ⟨_, rfl⟩
                    replace H : (if 0 ≤ (ji17) then (if (ji17) < (a0.size : Int) then (mancipleref9_field.j2 kj1 a0 x4_1 ((bt a0 (ji17)) != 32)) else (none)) else (none)) = some (r1, r2, r3, r4) := by first | (rw [hji17] at H; exact H) | (simp only [hji17] at H ⊢; exact H)
                    have hji17w : (IntKind.i64.wrap (x4_1 + 1)) = ji17 := (i64_w _).trans hji17
                    by_cases c18 : 0 ≤ (ji17)
                    · rw [if_pos c18] at H
                      have c18b0 : decide (0 ≤ (ji17)) = true := decide_eq_true c18
                      clear c18
                      by_cases c19 : (ji17) < (a0.size : Int)
                      · rw [if_pos c19] at H
                        have c19b0 : decide ((ji17) < (a0.size : Int)) = true := decide_eq_true c19
                        clear c19
                        have H' := Aside0.mk H
                        clear H
                        have p15 : 0 ≤ (x4_1 : Int) := of_decide_eq_true (by first | (with_reducible assumption) | assumption)
                        have q15 : x4_1 < (a0.size : Int) := of_decide_eq_true (by first | (with_reducible assumption) | assumption)
                        have hx15 := bt_at a0 x4_1
                        replace p15 := eq_true p15
                        replace q15 := eq_true q15
                        have p20 : 0 ≤ ((ji17) : Int) := of_decide_eq_true (by first | (with_reducible assumption) | assumption)
                        have q20 : (ji17) < (a0.size : Int) := of_decide_eq_true (by first | (with_reducible assumption) | assumption)
                        have hx20 := bt_at a0 (ji17)
                        replace p20 := eq_true p20
                        replace q20 := eq_true q20
                        go_wp2
                        go_meet
                        case rel => exact ⟨_, (((bt a0 (ji17)) != 32)), (by first | rfl | (simp; done) | (simp only [← hji17] <;> (first | rfl | simp)) | (simp [*]; done)), H', ⟨by have := HJ1.out; first | omega | exact Nat.le_refl _⟩, ⟨by (with_reducible repeat (first | refine blk_drewN ?_ _ | refine blk_drew ?_ | refine blk_alloc ?_ _)); exact BK269.out⟩, ⟨by repeat (first | (with_reducible first | exact HB.out | apply below_alloc | apply pw_below_drewN | apply below_drew1 | refine below_set ?_ GE269.out) | exact HB.out)⟩⟩
                      · rw [if_neg c19] at H
                        exact absurd H (by simp)
                    · rw [if_neg c18] at H
                      exact absurd H (by simp)
                  · rw [if_neg c16] at H
                    have c16b0 : ((bt a0 x4_1) == 58) = false := beq_eq_false_iff_ne.mpr c16
                    have c16b1 : ((bt a0 x4_1) != 58) = true := bne_iff_ne.mpr c16
                    have H' := Aside0.mk H
                    clear H
                    have p15 : 0 ≤ (x4_1 : Int) := of_decide_eq_true (by first | (with_reducible assumption) | assumption)
                    have q15 : x4_1 < (a0.size : Int) := of_decide_eq_true (by first | (with_reducible assumption) | assumption)
                    have hx15 := bt_at a0 x4_1
                    replace p15 := eq_true p15
                    replace q15 := eq_true q15
                    go_wp2
                    go_meet
                    case rel => exact ⟨_, (true), (by first | rfl | (simp; done) | (simp [*]; done)), H', ⟨by have := HJ1.out; first | omega | exact Nat.le_refl _⟩, ⟨by (with_reducible repeat (first | refine blk_drewN ?_ _ | refine blk_drew ?_ | refine blk_alloc ?_ _)); exact BK269.out⟩, ⟨by repeat (first | (with_reducible first | exact HB.out | apply below_alloc | apply pw_below_drewN | apply below_drew1 | refine below_set ?_ GE269.out) | exact HB.out)⟩⟩
                · rw [if_neg c14] at H
                  exact absurd H (by simp)
              · rw [if_neg c13] at H
                exact absurd H (by simp)
      case rest =>
        clear HC9
        try clear c1
        try clear p1
        try clear q1
        try clear hx1
        try clear c2
        try clear p2
        try clear q2
        try clear hx2
        try clear c4
        try clear c4b0
        try clear c4b2
        try clear c5
        try clear c5b0
        try clear p6
        try clear q6
        try clear hx6
        try clear c8
        try clear c10
        try clear c10b0
        try clear c10b2
        try clear c11
        try clear c11b0
        try clear c12
        try clear c12b0
        try clear c13
        try clear c13b0
        try clear c14
        try clear c14b0
        try clear p15
        try clear q15
        try clear hx15
        try clear c16
        try clear c16b0
        try clear c16b1
        try clear c18
        try clear c18b0
        try clear c19
        try clear c19b0
        try clear p20
        try clear q20
        try clear hx20
        try clear p15
        try clear p2
        try clear p20
        try clear p6
        try clear q15
        try clear q20
        try clear q6
        obtain ⟨kq, x43_8, rfl, HA, HJ8, BK269, HB⟩ := hcut
        cases kq with
        | zero => exact absurd HA.out (by simp [mancipleref9_field.j2])
        | succ kj8 =>
          have H := HA.out
          clear HA
          simp only [mancipleref9_field.j2] at H
          by_cases c21 : x43_8 = true
          · subst c21
            have H1 : (some ((⟨#[]⟩ : ByteArray), (⟨#[]⟩ : ByteArray), 0, false)) = some (r1, r2, r3, r4) := by rw [if_pos rfl] at H; exact H
            clear H
            have H := H1
            clear H1
            simp only [Option.some.injEq, Prod.mk.injEq] at H
            obtain ⟨rfl, rfl, rfl, rfl⟩ := H
            have hcz22_0 : wc.cell? ⟨gb269, 0, none⟩ = some (.string (⟨#[]⟩ : ByteArray)) := (blk_cell BK269.out 0).trans rfl
            have hcz22_1 : wc.cell? ⟨gb269, 1, none⟩ = some (.string (⟨#[]⟩ : ByteArray)) := (blk_cell BK269.out 1).trans rfl
            have hcz22_2 : wc.cell? ⟨gb269, 2, none⟩ = some (.int .i64 0) := (blk_cell BK269.out 2).trans rfl
            have hfz22_0 := blk_frozen BK269.out 0
            have hfz22_1 := blk_frozen BK269.out 1
            have hfz22_2 := blk_frozen BK269.out 2
            go_wp2
            refine bodyPost_ret (results_ct rfl _ _ gb269 46 #[.string (⟨#[]⟩ : ByteArray), .string (⟨#[]⟩ : ByteArray), .int .i64 0] (0, 0) _ rfl (by (with_reducible repeat (first | refine blk_drewN ?_ _ | refine blk_drew ?_ | refine blk_alloc ?_ _)); refine blk_put (cs := #[.string (⟨#[]⟩ : ByteArray), .string (⟨#[]⟩ : ByteArray), .int .i64 0]) ?_ 2 _ rfl; (with_reducible repeat (first | refine blk_drewN ?_ _ | refine blk_drew ?_ | refine blk_alloc ?_ _)); refine blk_put (cs := #[.string (⟨#[]⟩ : ByteArray), .string (⟨#[]⟩ : ByteArray), .int .i64 0]) ?_ 1 _ rfl; (with_reducible repeat (first | refine blk_drewN ?_ _ | refine blk_drew ?_ | refine blk_alloc ?_ _)); refine blk_put (cs := #[.string (⟨#[]⟩ : ByteArray), .string (⟨#[]⟩ : ByteArray), .int .i64 0]) ?_ 0 _ rfl; (with_reducible repeat (first | refine blk_drewN ?_ _ | refine blk_drew ?_ | refine blk_alloc ?_ _)); exact BK269.out) Tryd.underlying46 rfl (by kernel_rfl)) rfl ?_
            exact ⟨by first | rfl | (simp [errW_none, errW_some] <;> rfl) | (simp [*, errW_none, errW_some] <;> rfl), by repeat (first | (with_reducible first | exact HB.out | apply below_alloc | apply pw_below_drewN | apply below_drew1 | refine below_set ?_ GE269.out) | exact HB.out)⟩
          · replace c21 := Bool.eq_false_iff.mpr c21
            subst c21
            have H1 : (mancipleref9_field.l1 kj8 a0 x4_1 (wrap64 (x4_1 + 2))) = some (r1, r2, r3, r4) := by rw [if_neg (show ¬ (false = true) by decide)] at H; exact H
            clear H
            have H := H1
            clear H1
            have H' := Aside0.mk H
            clear H
            go_wp2
            go_loopg [5] kj8 (fun kq v5 w' => ∃ (x5_3 : Int) (x270000_3 : ByteArray) (x270001_3 : ByteArray) (x270002_3 : Int), v5 = .int .i64 x5_3 ∧ Aside0 (mancipleref9_field.l1 kq a0 x4_1 x5_3 = some (r1, r2, r3, r4)) ∧ Aside0 (kq ≤ kj8) ∧ Aside0 (w'.heap[gb269]? = some (.cells #[.string x270000_3, .string x270001_3, .int .i64 x270002_3] 46 (0, 0))) ∧ Aside0 (Below w.heap.size w w'))
            case atStart => exact ⟨(wrap64 (x4_1 + 2)), ((⟨#[]⟩ : ByteArray)), ((⟨#[]⟩ : ByteArray)), (0), (by first | rfl | (simp; done) | (simp [*]; done)), H', ⟨Nat.le_refl _⟩, ⟨by (with_reducible repeat (first | refine blk_drewN ?_ _ | refine blk_drew ?_ | refine blk_alloc ?_ _)); exact BK269.out⟩, ⟨by repeat (first | (with_reducible first | exact HB.out | apply below_alloc | apply pw_below_drewN | apply below_drew1 | refine below_set ?_ GE269.out) | exact HB.out)⟩⟩
            case round =>
              clear H'
              try clear c1
              try clear p1
              try clear q1
              try clear hx1
              try clear c2
              try clear p2
              try clear q2
              try clear hx2
              try clear c4
              try clear c4b0
              try clear c4b2
              try clear c5
              try clear c5b0
              try clear p6
              try clear q6
              try clear hx6
              try clear c8
              try clear c10
              try clear c10b0
              try clear c10b2
              try clear c11
              try clear c11b0
              try clear c12
              try clear c12b0
              try clear c13
              try clear c13b0
              try clear c14
              try clear c14b0
              try clear p15
              try clear q15
              try clear hx15
              try clear c16
              try clear c16b0
              try clear c16b1
              try clear c18
              try clear c18b0
              try clear c19
              try clear c19b0
              try clear p20
              try clear q20
              try clear hx20
              try clear c21
              try clear hcz22_0
              try clear hcz22_1
              try clear hcz22_2
              try clear hfz22_0
              try clear hfz22_1
              try clear hfz22_2
              try clear p1
              try clear p15
              try clear p2
              try clear p20
              try clear p6
              try clear q1
              try clear q15
              try clear q2
              try clear q20
              try clear q6
              obtain ⟨x5_3, x270000_3, x270001_3, x270002_3, rfl, HA, HK3, BK269, HB⟩ := hrel
              cases gk with
              | zero => exact absurd HA.out (by simp [mancipleref9_field.l1])
              | succ k3 =>
                have H := HA.out
                clear HA
                simp only [mancipleref9_field.l1] at H
                by_cases c23 : x5_3 < (a0.size : Int)
                · rw [if_pos c23] at H
                  have c23b0 : decide (x5_3 < (a0.size : Int)) = true := decide_eq_true c23
                  clear c23
                  by_cases c24 : 0 ≤ x5_3
                  · rw [if_pos c24] at H
                    have c24b0 : decide (0 ≤ x5_3) = true := decide_eq_true c24
                    clear c24
                    by_cases c26 : (bt a0 x5_3) < 32
                    · rw [if_pos c26] at H
                      have c26b0 : decide ((bt a0 x5_3) < 32) = true := decide_eq_true c26
                      clear c26
                      simp only [Option.some.injEq, Prod.mk.injEq] at H
                      obtain ⟨rfl, rfl, rfl, rfl⟩ := H
                      have p25 : 0 ≤ (x5_3 : Int) := of_decide_eq_true (by first | (with_reducible assumption) | assumption)
                      have q25 : x5_3 < (a0.size : Int) := of_decide_eq_true (by first | (with_reducible assumption) | assumption)
                      have hx25 := bt_at a0 x5_3
                      replace p25 := eq_true p25
                      replace q25 := eq_true q25
                      have hcz27_0 : wr.cell? ⟨gb269, 0, none⟩ = some (.string x270000_3) := (blk_cell BK269.out 0).trans rfl
                      have hcz27_1 : wr.cell? ⟨gb269, 1, none⟩ = some (.string x270001_3) := (blk_cell BK269.out 1).trans rfl
                      have hcz27_2 : wr.cell? ⟨gb269, 2, none⟩ = some (.int .i64 x270002_3) := (blk_cell BK269.out 2).trans rfl
                      have hfz27_0 := blk_frozen BK269.out 0
                      have hfz27_1 := blk_frozen BK269.out 1
                      have hfz27_2 := blk_frozen BK269.out 2
                      go_wp2
                      refine bodyPost_ret (results_ct rfl _ _ gb269 46 #[.string (⟨#[]⟩ : ByteArray), .string (⟨#[]⟩ : ByteArray), .int .i64 0] (0, 0) _ rfl (by (with_reducible repeat (first | refine blk_drewN ?_ _ | refine blk_drew ?_ | refine blk_alloc ?_ _)); refine blk_put (cs := #[.string (⟨#[]⟩ : ByteArray), .string (⟨#[]⟩ : ByteArray), .int .i64 x270002_3]) ?_ 2 _ rfl; (with_reducible repeat (first | refine blk_drewN ?_ _ | refine blk_drew ?_ | refine blk_alloc ?_ _)); refine blk_put (cs := #[.string (⟨#[]⟩ : ByteArray), .string x270001_3, .int .i64 x270002_3]) ?_ 1 _ rfl; (with_reducible repeat (first | refine blk_drewN ?_ _ | refine blk_drew ?_ | refine blk_alloc ?_ _)); refine blk_put (cs := #[.string x270000_3, .string x270001_3, .int .i64 x270002_3]) ?_ 0 _ rfl; (with_reducible repeat (first | refine blk_drewN ?_ _ | refine blk_drew ?_ | refine blk_alloc ?_ _)); exact BK269.out) Tryd.underlying46 rfl (by kernel_rfl)) rfl ?_
                      exact ⟨by first | rfl | (simp [errW_none, errW_some] <;> rfl) | (simp [*, errW_none, errW_some] <;> rfl), by repeat (first | (with_reducible first | exact HB.out | apply below_alloc | apply pw_below_drewN | apply below_drew1 | refine below_set ?_ GE269.out) | exact HB.out)⟩
                    · rw [if_neg c26] at H
                      have c26b0 : decide ((bt a0 x5_3) < 32) = false := decide_eq_false c26
                      clear c26
                      by_cases c29 : (bt a0 x5_3) > 126
                      · rw [if_pos c29] at H
                        have c29b0 : decide (126 < (bt a0 x5_3)) = true := decide_eq_true c29
                        clear c29
                        simp only [Option.some.injEq, Prod.mk.injEq] at H
                        obtain ⟨rfl, rfl, rfl, rfl⟩ := H
                        have p25 : 0 ≤ (x5_3 : Int) := of_decide_eq_true (by first | (with_reducible assumption) | assumption)
                        have q25 : x5_3 < (a0.size : Int) := of_decide_eq_true (by first | (with_reducible assumption) | assumption)
                        have hx25 := bt_at a0 x5_3
                        replace p25 := eq_true p25
                        replace q25 := eq_true q25
                        have p28 : 0 ≤ (x5_3 : Int) := of_decide_eq_true (by first | (with_reducible assumption) | assumption)
                        have q28 : x5_3 < (a0.size : Int) := of_decide_eq_true (by first | (with_reducible assumption) | assumption)
                        have hx28 := bt_at a0 x5_3
                        replace p28 := eq_true p28
                        replace q28 := eq_true q28
                        have hcz30_0 : wr.cell? ⟨gb269, 0, none⟩ = some (.string x270000_3) := (blk_cell BK269.out 0).trans rfl
                        have hcz30_1 : wr.cell? ⟨gb269, 1, none⟩ = some (.string x270001_3) := (blk_cell BK269.out 1).trans rfl
                        have hcz30_2 : wr.cell? ⟨gb269, 2, none⟩ = some (.int .i64 x270002_3) := (blk_cell BK269.out 2).trans rfl
                        have hfz30_0 := blk_frozen BK269.out 0
                        have hfz30_1 := blk_frozen BK269.out 1
                        have hfz30_2 := blk_frozen BK269.out 2
                        go_wp2
                        refine bodyPost_ret (results_ct rfl _ _ gb269 46 #[.string (⟨#[]⟩ : ByteArray), .string (⟨#[]⟩ : ByteArray), .int .i64 0] (0, 0) _ rfl (by (with_reducible repeat (first | refine blk_drewN ?_ _ | refine blk_drew ?_ | refine blk_alloc ?_ _)); refine blk_put (cs := #[.string (⟨#[]⟩ : ByteArray), .string (⟨#[]⟩ : ByteArray), .int .i64 x270002_3]) ?_ 2 _ rfl; (with_reducible repeat (first | refine blk_drewN ?_ _ | refine blk_drew ?_ | refine blk_alloc ?_ _)); refine blk_put (cs := #[.string (⟨#[]⟩ : ByteArray), .string x270001_3, .int .i64 x270002_3]) ?_ 1 _ rfl; (with_reducible repeat (first | refine blk_drewN ?_ _ | refine blk_drew ?_ | refine blk_alloc ?_ _)); refine blk_put (cs := #[.string x270000_3, .string x270001_3, .int .i64 x270002_3]) ?_ 0 _ rfl; (with_reducible repeat (first | refine blk_drewN ?_ _ | refine blk_drew ?_ | refine blk_alloc ?_ _)); exact BK269.out) Tryd.underlying46 rfl (by kernel_rfl)) rfl ?_
                        exact ⟨by first | rfl | (simp [errW_none, errW_some] <;> rfl) | (simp [*, errW_none, errW_some] <;> rfl), by repeat (first | (with_reducible first | exact HB.out | apply below_alloc | apply pw_below_drewN | apply below_drew1 | refine below_set ?_ GE269.out) | exact HB.out)⟩
                      · rw [if_neg c29] at H
                        have c29b0 : decide (126 < (bt a0 x5_3)) = false := decide_eq_false c29
                        clear c29
                        have H' := Aside0.mk H
                        clear H
                        have p25 : 0 ≤ (x5_3 : Int) := of_decide_eq_true (by first | (with_reducible assumption) | assumption)
                        have q25 : x5_3 < (a0.size : Int) := of_decide_eq_true (by first | (with_reducible assumption) | assumption)
                        have hx25 := bt_at a0 x5_3
                        replace p25 := eq_true p25
                        replace q25 := eq_true q25
                        have p28 : 0 ≤ (x5_3 : Int) := of_decide_eq_true (by first | (with_reducible assumption) | assumption)
                        have q28 : x5_3 < (a0.size : Int) := of_decide_eq_true (by first | (with_reducible assumption) | assumption)
                        have hx28 := bt_at a0 x5_3
                        replace p28 := eq_true p28
                        replace q28 := eq_true q28
                        go_wp2
                        go_roundg k3
                        case measure => have := HJ1.out; have := HJ8.out; have := HK3.out; omega
                        case rel => exact ⟨(wrap64 (x5_3 + 1)), (x270000_3), (x270001_3), (x270002_3), (by first | rfl | (simp; done) | (simp [*]; done)), H', ⟨by have := HJ1.out; have := HJ8.out; have := HK3.out; omega⟩, ⟨by (with_reducible repeat (first | refine blk_drewN ?_ _ | refine blk_drew ?_ | refine blk_alloc ?_ _)); exact BK269.out⟩, ⟨by repeat (first | (with_reducible first | exact HB.out | apply below_alloc | apply pw_below_drewN | apply below_drew1 | refine below_set ?_ GE269.out) | exact HB.out)⟩⟩
                  · rw [if_neg c24] at H
                    exact absurd H (by simp)
                · rw [if_neg c23] at H
                  have c23b0 : decide (x5_3 < (a0.size : Int)) = false := decide_eq_false c23
                  clear c23
                  by_cases c31 : 0 ≤ x4_1
                  · rw [if_pos c31] at H
                    have c31b0 := eq_true c31
                    have c31b1 : decide (0 ≤ x4_1) = true := decide_eq_true c31
                    clear c31
                    by_cases c32 : x4_1 ≤ (a0.size : Int)
                    · rw [if_pos c32] at H
                      have c32b0 := eq_true c32
                      have c32b1 : decide (x4_1 ≤ (a0.size : Int)) = true := decide_eq_true c32
                      clear c32
                      obtain ⟨y271, hy271⟩ : ∃ y_ : ByteArray, y_ = (a0.extract 0 (x4_1 : Int).toNat) := ⟨_, rfl⟩
                      replace H : (if 0 ≤ (wrap64 (x4_1 + 2)) then (if (wrap64 (x4_1 + 2)) ≤ (a0.size : Int) then (some (y271, (a0.extract ((wrap64 (x4_1 + 2)) : Int).toNat a0.size), 0, true)) else (none)) else (none)) = some (r1, r2, r3, r4) := by first | (rw [hy271]; with_reducible exact H) | (have H2_ := (Option.bind_some _ _).symm.trans H; rw [hy271]; with_reducible exact H2_) | (have H2_ := (Option.bind_some _ _).symm.trans H; with_reducible exact H2_) | with_reducible exact H | (rw [hy271]; exact H) | exact H
                      have Ny271 := Aside0.mk hy271
                      clear hy271
                      have Ey271 : a0.extract 0 (x4_1 : Int).toNat = y271 := Ny271.out.symm
                      obtain ⟨ji33, hji33⟩ : ∃ j_ : Int, (wrap64 (x4_1 + 2)) = j_ := ⟨_, rfl⟩
                      replace H : (if 0 ≤ (ji33) then (if (ji33) ≤ (a0.size : Int) then (some (y271, (a0.extract ((ji33) : Int).toNat a0.size), 0, true)) else (none)) else (none)) = some (r1, r2, r3, r4) := by first | (rw [hji33] at H; exact H) | (simp only [hji33] at H ⊢; exact H)
                      have hji33w : (IntKind.i64.wrap (x4_1 + 2)) = ji33 := (i64_w _).trans hji33
                      by_cases c34 : 0 ≤ (ji33)
                      · rw [if_pos c34] at H
                        have c34b0 := eq_true c34
                        have c34b1 : decide (0 ≤ (ji33)) = true := decide_eq_true c34
                        clear c34
                        by_cases c35 : (ji33) ≤ (a0.size : Int)
                        · rw [if_pos c35] at H
                          have c35b0 := eq_true c35
                          have c35b1 : decide ((ji33) ≤ (a0.size : Int)) = true := decide_eq_true c35
                          clear c35
                          obtain ⟨y272, hy272⟩ : ∃ y_ : ByteArray, y_ = (a0.extract ((ji33) : Int).toNat a0.size) := ⟨_, rfl⟩
                          replace H : (some (y271, y272, 0, true)) = some (r1, r2, r3, r4) := by first | (rw [hy272]; with_reducible exact H) | (have H2_ := (Option.bind_some _ _).symm.trans H; rw [hy272]; with_reducible exact H2_) | (have H2_ := (Option.bind_some _ _).symm.trans H; with_reducible exact H2_) | with_reducible exact H | (rw [hy272]; exact H) | exact H
                          have Ny272 := Aside0.mk hy272
                          clear hy272
                          have Ey272 : a0.extract ((ji33) : Int).toNat a0.size = y272 := Ny272.out.symm
                          simp only [Option.some.injEq, Prod.mk.injEq] at H
                          obtain ⟨rfl, rfl, rfl, rfl⟩ := H
                          try go_wp2
                          have n0_ := Aside0.mk (blk_drew BK269.out)
                          have n1_ := Aside0.mk (below_drew1 HB.out)
                          clear BK269
                          clear HB
                          have BK269 := n0_
                          have HB := n1_
                          clear n0_ n1_
                          refine start_ (n := 10) (S := fun w' => True) (ds := []) #[false, false, false, false, false, false, false, false, false, false] (by kernel_rfl) rfl rfl trivial (fun hHeld => ?_); refine with_tabW mancipleref9_field.tab11 mancipleref9_field.bits11 (fun HT_ HW_ => ?_)
                          generalize wr.drew = w36 at BK269 HB hHeld ⊢
                          refine pure_ (i := 0) (N := some 64) (v := ?_) (a' := ?_) #[true, false, false, false, false, false, false, false, false, false] rfl rfl (any_of HT_.out (by kernel_rfl)) (fun _ _ _ h => h) (Or.inl ⟨by rfl, ?_⟩) ?_ ?_
                          rotate_left
                          · intro w'
                            go_simp
                            with_reducible rfl
                          rotate_left
                          · simp only [Act.put, List.setIfInBounds_toArray, List.set_cons_zero, List.set_cons_succ, i64_w, i32_w]
                            rfl
                          refine pure_ (i := 1) (N := some 65) (v := ?_) (a' := ?_) #[true, true, false, false, false, false, false, false, false, false] rfl rfl (any_of HT_.out (by kernel_rfl)) (fun _ _ _ h => h) (Or.inl ⟨by rfl, ?_⟩) ?_ ?_
                          rotate_left
                          · intro w'
                            go_simp
                            with_reducible rfl
                          rotate_left
                          · simp only [Act.put, List.setIfInBounds_toArray, List.set_cons_zero, List.set_cons_succ, i64_w, i32_w]
                            rfl
                          refine pure_ (i := 2) (N := some 66) (v := ?_) (a' := ?_) #[true, true, true, false, false, false, false, false, false, false] rfl rfl (any_of HT_.out (by kernel_rfl)) (fun _ _ _ h => h) (Or.inl ⟨by rfl, ?_⟩) ?_ ?_
                          rotate_left
                          · intro w'
                            go_simp
                            with_reducible rfl
                          rotate_left
                          · simp only [Act.put, List.setIfInBounds_toArray, List.set_cons_zero, List.set_cons_succ, i64_w, i32_w]
                            rfl
                          refine pure_ (i := 3) (N := some 67) (v := ?_) (a' := ?_) #[true, true, true, true, false, false, false, false, false, false] rfl rfl (any_of HT_.out (by kernel_rfl)) (fun _ _ _ h => h) (Or.inl ⟨by rfl, ?_⟩) ?_ ?_
                          rotate_left
                          · intro w'
                            go_simp
                            with_reducible rfl
                          rotate_left
                          · simp only [Act.put, List.setIfInBounds_toArray, List.set_cons_zero, List.set_cons_succ, i64_w, i32_w]
                            rfl
                          refine pure_ (i := 4) (N := some 68) (v := ?_) (a' := ?_) #[true, true, true, true, true, false, false, false, false, false] rfl rfl (any_of HT_.out (by kernel_rfl)) (fun _ _ _ h => h) (Or.inl ⟨by rfl, ?_⟩) ?_ ?_
                          rotate_left
                          · intro w'
                            go_simp
                            with_reducible rfl
                          rotate_left
                          · simp only [Act.put, List.setIfInBounds_toArray, List.set_cons_zero, List.set_cons_succ, i64_w, i32_w]
                            rfl
                          refine pure_ (i := 5) (N := some 69) (v := ?_) (a' := ?_) #[true, true, true, true, true, true, false, false, false, false] rfl rfl (any_of HT_.out (by kernel_rfl)) (fun _ _ _ h => h) (Or.inl ⟨by rfl, ?_⟩) ?_ ?_
                          rotate_left
                          · intro w'
                            go_simp
                            with_reducible rfl
                          rotate_left
                          · simp only [Act.put, List.setIfInBounds_toArray, List.set_cons_zero, List.set_cons_succ, i64_w, i32_w]
                            rfl
                          refine pure_ (i := 6) (N := some 70) (v := ?_) (a' := ?_) #[true, true, true, true, true, true, true, false, false, false] rfl rfl (any_of HT_.out (by kernel_rfl)) (fun _ _ _ h => h) (Or.inl ⟨by rfl, ?_⟩) ?_ ?_
                          rotate_left
                          · intro w'
                            go_simp
                            with_reducible rfl
                          rotate_left
                          · simp only [Act.put, List.setIfInBounds_toArray, List.set_cons_zero, List.set_cons_succ, i64_w, i32_w]
                            rfl
                          refine pure_ (i := 7) (N := some 71) (v := ?_) (a' := ?_) #[true, true, true, true, true, true, true, true, false, false] rfl rfl (any_of HT_.out (by kernel_rfl)) (fun _ _ _ h => h) (Or.inl ⟨by rfl, ?_⟩) ?_ ?_
                          rotate_left
                          · intro w'
                            go_simp
                            with_reducible rfl
                          rotate_left
                          · simp only [Act.put, List.setIfInBounds_toArray, List.set_cons_zero, List.set_cons_succ, i64_w, i32_w]
                            rfl
                          refine one_ (i := 8) (N := none) #[true, true, true, true, true, true, true, true, true, false] rfl rfl (one_of HT_.out (by kernel_rfl)) (by decide) (fun K hK => ?_)
                          have hs37 : w36.cell? ⟨gb269, 0, none⟩ = some (.string x270000_3) := (blk_cell BK269.out 0).trans rfl
                          have hfs37 := blk_frozen BK269.out 0
                          have hs38 : w36.cell? ⟨gb269, 1, none⟩ = some (.string x270001_3) := (blk_cell BK269.out 1).trans rfl
                          have hfs38 := blk_frozen BK269.out 1
                          have hs39 : w36.cell? ⟨gb269, 2, none⟩ = some (.int .i64 x270002_3) := (blk_cell BK269.out 2).trans rfl
                          have hfs39 := blk_frozen BK269.out 2
                          refine skip_ (w1 := ?_) (by rfl) rfl ?_ ?_
                          rotate_left
                          · go_simp
                            rfl
                          refine hK.out _ _ trivial (fun hHeld => ?_)
                          clear hK K
                          refine pure_ (i := 9) (N := some 3) (v := ?_) (a' := ?_) #[true, true, true, true, true, true, true, true, true, true] rfl rfl (any_of HT_.out (by kernel_rfl)) (fun _ _ _ h => h) (Or.inl ⟨by rfl, ?_⟩) ?_ ?_
                          rotate_left
                          · intro w'
                            go_simp
                            with_reducible rfl
                          rotate_left
                          · simp only [Act.put, List.setIfInBounds_toArray, List.set_cons_zero, List.set_cons_succ, i64_w, i32_w]
                            rfl
                          refine done_ (done_of HT_.out (by kernel_rfl)) ?_
                          try go_wp2
                          refine bodyPost_ret (results_ct rfl _ _ gb269 46 #[.string y271, .string y272, .int .i64 0] (0, 0) _ rfl (by (with_reducible repeat (first | refine blk_drewN ?_ _ | refine blk_drew ?_ | refine blk_alloc ?_ _)); refine blk_put (cs := #[.string y271, .string y272, .int .i64 x270002_3]) ?_ 2 _ rfl; (with_reducible repeat (first | refine blk_drewN ?_ _ | refine blk_drew ?_ | refine blk_alloc ?_ _)); refine blk_put (cs := #[.string y271, .string x270001_3, .int .i64 x270002_3]) ?_ 1 _ rfl; (with_reducible repeat (first | refine blk_drewN ?_ _ | refine blk_drew ?_ | refine blk_alloc ?_ _)); refine blk_put (cs := #[.string x270000_3, .string x270001_3, .int .i64 x270002_3]) ?_ 0 _ rfl; (with_reducible repeat (first | refine blk_drewN ?_ _ | refine blk_drew ?_ | refine blk_alloc ?_ _)); exact BK269.out) Tryd.underlying46 rfl (by kernel_rfl)) rfl ?_
                          exact ⟨by first | rfl | (simp [errW_none, errW_some] <;> rfl) | (simp only [← hji33]; first | rfl | (simp [errW_none, errW_some] <;> rfl)) | (simp [*, errW_none, errW_some] <;> rfl), by repeat (first | (with_reducible first | exact HB.out | apply below_alloc | apply pw_below_drewN | apply below_drew1 | refine below_set ?_ GE269.out) | exact HB.out)⟩
                        · rw [if_neg c35] at H
                          exact absurd H (by simp)
                      · rw [if_neg c34] at H
                        exact absurd H (by simp)
                    · rw [if_neg c32] at H
                      exact absurd H (by simp)
                  · rw [if_neg c31] at H
                    exact absurd H (by simp)
end Go.Proofs.YtmgeokfknehonaaDoor.Q
