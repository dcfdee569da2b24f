/- Printed by a program of this repo, over the kit's print, for this claim; hand-made contracts stand among it. Plain theorems, Lean checks them. -/
import Derived.Test.YtpijehmhgjkkoaaDoorProg
import Derived.Below
import Derived.Deep.Draws
import Derived.Deep.AppendLies
import Derived.Maps.AppendAt
import Derived.OwnWalk
import Derived.Laws.BytesArg
import Derived.Laws.MakeOwn
import Derived.Laws.OwnMore
import Derived.Deep.OwnRows
import Derived.Tactics
import Derived.Lib.ConvBytes
import Derived.Laws.Slices
import Derived.WalkKit
import Derived.KernelRfl
import Derived.RowKit3
import Derived.Deep.LoopGhost
import Derived.Deep.QuietTactic
import Derived.BigQuiet
import Derived.WideLaws
import Derived.Deep.DeepCutAuto
import Derived.Deep.CutBlock
import Derived.Deep.RegionHeld3
import Derived.Laws.Rows
import Derived.Lib.AppendStr
import Derived.ArgAppend
import Derived.Laws.IdiomCopy
import Derived.OrdersHeld
import Derived.Laws.BitsLemmas
import Derived.RowKit
import Derived.Defers
import Derived.Laws.Cover1
import Derived.Laws.Pointers
import Derived.Recover
import Derived.Shelf.Strings.SlTrimAscii
import Derived.Test.YtpijehmhgjkkoaaDoorBld
import Derived.Test.YtpijehmhgjkkoaaDoorVVerNumbersPanWords
import Derived.Test.YtpijehmhgjkkoaaDoorShelf
import Derived.WalkSmall
import Derived.Test.YtpijehmhgjkkoaaDoorVVerNumbersWords
import Derived.Test.YtpijehmhgjkkoaaDoorVVerNumbersLast
import Derived.Test.YtpijehmhgjkkoaaDoorVVerNumbersTab
import Derived.Test.YtpijehmhgjkkoaaDoorVVerNumbersApart
import Derived.Test.YtpijehmhgjkkoaaDoorVVerNumbersFoot
import Derived.Test.YtpijehmhgjkkoaaDoorVVerNumbersKept
import Derived.Test.YtpijehmhgjkkoaaDoorVVerNumbersShare
import Derived.Test.YtpijehmhgjkkoaaDoorVVerNumbersN
import Derived.Laws.StructEq
import Derived.Test.YtpijehmhgjkkoaaDoorVVerNumbersRepsOne
import Derived.Test.YtpijehmhgjkkoaaDoorVVerNumbersInv
import Derived.Test.YtpijehmhgjkkoaaDoorVVerNumbersGuard
import Derived.Test.YtpijehmhgjkkoaaDoorVVerNumbersMore
namespace Go.Proofs.YtpijehmhgjkkoaaDoor.Q
open Go.RowKit Go.Proofs.YtpijehmhgjkkoaaDoorW.PrintWords Go.Proofs.YtpijehmhgjkkoaaDoorW.PrintLast Go.Proofs.YtpijehmhgjkkoaaDoorW.PrintMore
attribute [local go_sem] max2_int min2_int max_two min_two max_three min_three max_four min_four   -- for this text's walks alone
set_option linter.unusedVariables false
set_option linter.unusedSimpArgs false



def errW : Option Int → Value
  | none => .nilIface
  | some c => .iface 0 (.int .i64 c)
theorem errW_none : errW none = .nilIface := rfl
theorem errW_some (c : Int) : errW (some c) = .iface 0 (.int .i64 c) := rfl

theorem info3 : (Tryd.prog.info? 3).map (fun i => (i.zero, i.size, i.bytes)) = some (some (.int .i64 0), 1, 8) := by kernel_rfl
theorem info5 : (Tryd.prog.info? 5).map (fun i => (i.zero, i.size, i.bytes)) = some (some (.int .u8 0), 1, 1) := by kernel_rfl
theorem info9 : (Tryd.prog.info? 9).map (fun i => (i.zero, i.size, i.bytes)) = some (some (.string ⟨#[]⟩), 1, 16) := by kernel_rfl
-- the values' own types

end Go.Proofs.YtpijehmhgjkkoaaDoor.Q
namespace Go.Proofs.YtpijehmhgjkkoaaDoor.Q
open Go.RowKit Go.Proofs.YtpijehmhgjkkoaaDoorW.PrintWords Go.Proofs.YtpijehmhgjkkoaaDoorW.PrintLast Go.Proofs.YtpijehmhgjkkoaaDoorW.PrintMore
attribute [local go_sem] max2_int min2_int max_two min_two max_three min_three max_four min_four   -- for this text's walks alone
set_option linter.unusedVariables false
set_option linter.unusedSimpArgs false

-- HANDPART catch.lean
/-! ### ver_catch: by hand -/
theorem ver_catch.hit (g : Nat) (x c : Int) (w : World) (hb : w.heap[g]? = some (.cells #[.int .i64 x] 23 (0, 0))) :
    CallsD Tryd.prog 18 #[.pointer (some ⟨g, 0, none⟩)] (.panicking [{ v := .iface 23 (.int .i64 c), recovered := false }]) w fun en u' w' =>
      en = .returned (.tuple #[]) ∧ u' = .panicking [{ v := .iface 23 (.int .i64 c), recovered := true }] ∧ w' = w.setCell ⟨g, 0, none⟩ (.int .i64 c) := by
  have hc : w.cell? ⟨g, 0, none⟩ = some (.int .i64 x) := (blk_cell hb 0).trans rfl
  have hz := blk_frozen hb 0
  clear hb
  refine callsD_of_wpS Tryd.func18 rfl fun c₀ cs hu => ?_
  apply wpS_seq
  apply wpS_region
  simp [wpOpsS, go_sem, recoverD, hu, Tryd.ntmps18, Exit.thenS, Array.replicate, List.replicate]
  refine wpS_of_wp ?_
  have hta : ∀ (v : Value) (W : World), (Instr.typeAssert (.iface 23 v) 20 23 true).run Tryd.prog W = .ok (.tuple #[v, .bool true]) W := fun v W => by rfl
  go_wp2
  simp [bodyPostS, results, Tryd.results18, go_sem]
theorem ver_catch.idle (g : Nat) (w : World) :
    CallsD Tryd.prog 18 #[.pointer (some ⟨g, 0, none⟩)] .returning w fun e u' w' => e = .returned (.tuple #[]) ∧ u' = .returning ∧ w' = w := by
  refine callsD_of_wpS Tryd.func18 rfl fun c₀ cs hu => ?_
  apply wpS_seq
  apply wpS_region
  simp [wpOpsS, go_sem, recoverD, hu, Tryd.ntmps18, Exit.thenS, Array.replicate, List.replicate]
  refine wpS_of_wp ?_
  go_wp2
  cases c₀
  simp_all [bodyPostS, results, Tryd.results18]
end Go.Proofs.YtpijehmhgjkkoaaDoor.Q
namespace Go.Proofs.YtpijehmhgjkkoaaDoor.Q
open Go.RowKit Go.Proofs.YtpijehmhgjkkoaaDoorW.PrintWords Go.Proofs.YtpijehmhgjkkoaaDoorW.PrintLast Go.Proofs.YtpijehmhgjkkoaaDoorW.PrintMore
attribute [local go_sem] max2_int min2_int max_two min_two max_three min_three max_four min_four   -- for this text's walks alone
set_option linter.unusedVariables false
set_option linter.unusedSimpArgs false

-- HANDPART stringslite_Index.lean
/-! ### stringslite_Index: by hand -/
/-- Index at a substring of one byte (none elsewhere). -/
def stringslite_Index.f (a0 a1 : ByteArray) : Option Int := if a1.size = 1 then some (Lib.indexByte a0.data.toList (bt a1 0).toNat.toUInt8) else none
theorem stringslite_Index.calls (a0 a1 : ByteArray) (r : Int) (w : World) (h : stringslite_Index.f a0 a1 = some r) :
    Calls Tryd.prog 62 #[.string a0, .string a1] w fun e w' => e = .returned (.int .i64 r) ∧ Drawn0 w w' := by
  unfold stringslite_Index.f at h
  split at h
  · rename_i h1
    obtain ⟨l⟩ := a1
    obtain ⟨l⟩ := l
    match l, h1 with
    | [c], _ =>
      have e0 : bt ⟨⟨[c]⟩⟩ 0 = (c.toNat : Int) := (bt_at ⟨⟨[c]⟩⟩ 0 (show (0 : Int).toNat < 1 from Nat.one_pos)).symm
      have e : (bt ⟨⟨[c]⟩⟩ 0).toNat.toUInt8 = c := by
        rw [e0, Int.toNat_natCast]
        exact UInt8.ofNat_toNat
      rw [e] at h
      obtain rfl := Option.some.inj h
      exact (Tryd.stringslite_Index_one a0 c w).mono fun e w' ⟨h1, h2⟩ => ⟨h1, h2 ▸ Drawn0.refl _⟩
  · cases h
end Go.Proofs.YtpijehmhgjkkoaaDoor.Q
namespace Go.Proofs.YtpijehmhgjkkoaaDoor.Q
open Go.RowKit Go.Proofs.YtpijehmhgjkkoaaDoorW.PrintWords Go.Proofs.YtpijehmhgjkkoaaDoorW.PrintLast Go.Proofs.YtpijehmhgjkkoaaDoorW.PrintMore
attribute [local go_sem] max2_int min2_int max_two min_two max_three min_three max_four min_four   -- for this text's walks alone
set_option linter.unusedVariables false
set_option linter.unusedSimpArgs false
/-! ### stringslite_Cut: function 44 -/
def stringslite_Cut.f (a0 : ByteArray) (a1 : ByteArray) : Option (ByteArray × ByteArray × Bool) := (stringslite_Index.f a0 a1).bind fun t101 => (if t101 ≥ 0 then (if 0 ≤ t101 then (if t101 ≤ (a0.size : Int) then (if 0 ≤ (wrap64 (t101 + (a1.size : Int))) then (if (wrap64 (t101 + (a1.size : Int))) ≤ (a0.size : Int) then (some ((a0.extract 0 (t101 : Int).toNat), (a0.extract ((wrap64 (t101 + (a1.size : Int))) : Int).toNat a0.size), true)) else (none)) else (none)) else (none)) else (none)) else (some (a0, (⟨#[]⟩ : ByteArray), false)))
set_option maxHeartbeats 8000000 in
set_option maxRecDepth 100000 in
theorem stringslite_Cut.calls (a0 : ByteArray) (a1 : ByteArray) (r1 : ByteArray) (r2 : ByteArray) (r3 : Bool) (w : World) (h : stringslite_Cut.f a0 a1 = some (r1, r2, r3)) :
    Calls Tryd.prog 44 #[.string a0, .string a1] w fun e w' => e = .returned (.tuple #[.string r1, .string r2, .bool r3]) ∧ Drawn0 w w' := by
  have H : ((stringslite_Index.f a0 a1).bind fun t101 => (if t101 ≥ 0 then (if 0 ≤ t101 then (if t101 ≤ (a0.size : Int) then (if 0 ≤ (wrap64 (t101 + (a1.size : Int))) then (if (wrap64 (t101 + (a1.size : Int))) ≤ (a0.size : Int) then (some ((a0.extract 0 (t101 : Int).toNat), (a0.extract ((wrap64 (t101 + (a1.size : Int))) : Int).toNat a0.size), true)) else (none)) else (none)) else (none)) else (none)) else (some (a0, (⟨#[]⟩ : ByteArray), false)))) = some (r1, r2, r3) := h
  clear h
  replace H := Option.bind_eq_some_iff.mp H
  obtain ⟨t101, A30, H⟩ := H
  replace H : (if t101 ≥ 0 then (if 0 ≤ t101 then (if t101 ≤ (a0.size : Int) then (if 0 ≤ (wrap64 (t101 + (a1.size : Int))) then (if (wrap64 (t101 + (a1.size : Int))) ≤ (a0.size : Int) then (some ((a0.extract 0 (t101 : Int).toNat), (a0.extract ((wrap64 (t101 + (a1.size : Int))) : Int).toNat a0.size), true)) else (none)) else (none)) else (none)) else (none)) else (some (a0, (⟨#[]⟩ : ByteArray), false))) = some (r1, r2, r3) := H
  have A3 := Aside0.mk A30
  clear A30
  by_cases c4 : t101 ≥ 0
  · rw [if_pos c4] at H
    have c4b0 : decide (0 ≤ t101) = true := decide_eq_true c4
    clear c4
    by_cases c5 : 0 ≤ t101
    · rw [if_pos c5] at H
      have c5b0 := eq_true c5
      have c5b1 : decide (0 ≤ t101) = true := decide_eq_true c5
      clear c5
      by_cases c6 : t101 ≤ (a0.size : Int)
      · rw [if_pos c6] at H
        have c6b0 := eq_true c6
        have c6b1 : decide (t101 ≤ (a0.size : Int)) = true := decide_eq_true c6
        clear c6
        obtain ⟨y102, hy102⟩ : ∃ y_ : ByteArray, y_ = (a0.extract 0 (t101 : Int).toNat) := ⟨_, rfl⟩
        replace H : (if 0 ≤ (wrap64 (t101 + (a1.size : Int))) then (if (wrap64 (t101 + (a1.size : Int))) ≤ (a0.size : Int) then (some (y102, (a0.extract ((wrap64 (t101 + (a1.size : Int))) : Int).toNat a0.size), true)) else (none)) else (none)) = some (r1, r2, r3) := by first | (rw [hy102]; with_reducible exact H) | (have H2_ := (Option.bind_some _ _).symm.trans H; rw [hy102]; with_reducible exact H2_) | (have H2_ := (Option.bind_some _ _).symm.trans H; with_reducible exact H2_) | with_reducible exact H | (rw [hy102]; exact H) | exact H
        have Ny102 := Aside0.mk hy102
        clear hy102
        have Ey102 : a0.extract 0 (t101 : Int).toNat = y102 := Ny102.out.symm
        obtain ⟨ji7, hji7⟩ : ∃ j_ : Int, (wrap64 (t101 + (a1.size : Int))) = j_ := ⟨_, rfl⟩
        replace H : (if 0 ≤ (ji7) then (if (ji7) ≤ (a0.size : Int) then (some (y102, (a0.extract ((ji7) : Int).toNat a0.size), true)) else (none)) else (none)) = some (r1, r2, r3) := by first | (rw [hji7] at H; exact H) | (simp only [hji7] at H ⊢; exact H)
        (try rw [hji7] at A3)
        have hji7w : (IntKind.i64.wrap (t101 + (a1.size : Int))) = ji7 := (i64_w _).trans hji7
        by_cases c8 : 0 ≤ (ji7)
        · rw [if_pos c8] at H
          have c8b0 := eq_true c8
          have c8b1 : decide (0 ≤ (ji7)) = true := decide_eq_true c8
          clear c8
          by_cases c9 : (ji7) ≤ (a0.size : Int)
          · rw [if_pos c9] at H
            have c9b0 := eq_true c9
            have c9b1 : decide ((ji7) ≤ (a0.size : Int)) = true := decide_eq_true c9
            clear c9
            obtain ⟨y103, hy103⟩ : ∃ y_ : ByteArray, y_ = (a0.extract ((ji7) : Int).toNat a0.size) := ⟨_, rfl⟩
            replace H : (some (y102, y103, true)) = some (r1, r2, r3) := by first | (rw [hy103]; with_reducible exact H) | (have H2_ := (Option.bind_some _ _).symm.trans H; rw [hy103]; with_reducible exact H2_) | (have H2_ := (Option.bind_some _ _).symm.trans H; with_reducible exact H2_) | with_reducible exact H | (rw [hy103]; exact H) | exact H
            have Ny103 := Aside0.mk hy103
            clear hy103
            have Ey103 : a0.extract ((ji7) : Int).toNat a0.size = y103 := Ny103.out.symm
            simp only [Option.some.injEq, Prod.mk.injEq] at H
            obtain ⟨rfl, rfl, rfl⟩ := H
            go_enter Tryd.func44, Tryd.ntmps44
            go_wp2_with (first | (go_at_call 62; (with_reducible refine (stringslite_Index.calls a0 a1 t101 _ A3.out).mono ?_); rintro e w' ⟨rfl, ⟨nd, rfl⟩⟩; (try first | exact ⟨rfl, _, World.drewN_drewN _ _ _⟩ | exact ⟨rfl, _, Eq.trans (World.drewN_drewN _ _ _) (congrArg (World.drewN _) (Nat.add_assoc _ _ _))⟩)))
            repeat (go_quiet (first | (go_at_call 62; (with_reducible refine (stringslite_Index.calls a0 a1 t101 _ A3.out).mono ?_); rintro e w' ⟨rfl, ⟨nd, rfl⟩⟩; (try first | exact ⟨rfl, _, World.drewN_drewN _ _ _⟩ | exact ⟨rfl, _, Eq.trans (World.drewN_drewN _ _ _) (congrArg (World.drewN _) (Nat.add_assoc _ _ _))⟩))); try go_wp2_with (first | (go_at_call 62; (with_reducible refine (stringslite_Index.calls a0 a1 t101 _ A3.out).mono ?_); rintro e w' ⟨rfl, ⟨nd, rfl⟩⟩; (try first | exact ⟨rfl, _, World.drewN_drewN _ _ _⟩ | exact ⟨rfl, _, Eq.trans (World.drewN_drewN _ _ _) (congrArg (World.drewN _) (Nat.add_assoc _ _ _))⟩))))
            go_ret3
            exact ⟨by first | rfl | (simp; done) | (simp only [← hji7] <;> (first | rfl | simp)) | (simp [*]; done), by repeat (first | exact Drawn0.refl _ | apply Drawn0.step)⟩
          · rw [if_neg c9] at H
            exact absurd H (by simp)
        · rw [if_neg c8] at H
          exact absurd H (by simp)
      · rw [if_neg c6] at H
        exact absurd H (by simp)
    · rw [if_neg c5] at H
      exact absurd H (by simp)
  · rw [if_neg c4] at H
    have c4b0 : decide (0 ≤ t101) = false := decide_eq_false c4
    clear c4
    simp only [Option.some.injEq, Prod.mk.injEq] at H
    obtain ⟨rfl, rfl, rfl⟩ := H
    go_enter Tryd.func44, Tryd.ntmps44
    go_wp2_with (first | (go_at_call 62; (with_reducible refine (stringslite_Index.calls a0 a1 t101 _ A3.out).mono ?_); rintro e w' ⟨rfl, ⟨nd, rfl⟩⟩; (try first | exact ⟨rfl, _, World.drewN_drewN _ _ _⟩ | exact ⟨rfl, _, Eq.trans (World.drewN_drewN _ _ _) (congrArg (World.drewN _) (Nat.add_assoc _ _ _))⟩)))
    repeat (go_quiet (first | (go_at_call 62; (with_reducible refine (stringslite_Index.calls a0 a1 t101 _ A3.out).mono ?_); rintro e w' ⟨rfl, ⟨nd, rfl⟩⟩; (try first | exact ⟨rfl, _, World.drewN_drewN _ _ _⟩ | exact ⟨rfl, _, Eq.trans (World.drewN_drewN _ _ _) (congrArg (World.drewN _) (Nat.add_assoc _ _ _))⟩))); try go_wp2_with (first | (go_at_call 62; (with_reducible refine (stringslite_Index.calls a0 a1 t101 _ A3.out).mono ?_); rintro e w' ⟨rfl, ⟨nd, rfl⟩⟩; (try first | exact ⟨rfl, _, World.drewN_drewN _ _ _⟩ | exact ⟨rfl, _, Eq.trans (World.drewN_drewN _ _ _) (congrArg (World.drewN _) (Nat.add_assoc _ _ _))⟩))))
    go_ret3
    exact ⟨by first | rfl | (simp; done) | (simp [*]; done), by repeat (first | exact Drawn0.refl _ | apply Drawn0.step)⟩
end Go.Proofs.YtpijehmhgjkkoaaDoor.Q
namespace Go.Proofs.YtpijehmhgjkkoaaDoor.Q
open Go.RowKit Go.Proofs.YtpijehmhgjkkoaaDoorW.PrintWords Go.Proofs.YtpijehmhgjkkoaaDoorW.PrintLast Go.Proofs.YtpijehmhgjkkoaaDoorW.PrintMore
attribute [local go_sem] max2_int min2_int max_two min_two max_three min_three max_four min_four   -- for this text's walks alone
set_option linter.unusedVariables false
set_option linter.unusedSimpArgs false
/-! ### strings_Cut: function 25 -/
def strings_Cut.f (a0 : ByteArray) (a1 : ByteArray) : Option (ByteArray × ByteArray × Bool) := (stringslite_Cut.f a0 a1).bind fun bt104 => (some (bt104.1, bt104.2.1, bt104.2.2))
set_option maxHeartbeats 8000000 in
set_option maxRecDepth 100000 in
theorem strings_Cut.calls (a0 : ByteArray) (a1 : ByteArray) (r1 : ByteArray) (r2 : ByteArray) (r3 : Bool) (w : World) (h : strings_Cut.f a0 a1 = some (r1, r2, r3)) :
    Calls Tryd.prog 25 #[.string a0, .string a1] w fun e w' => e = .returned (.tuple #[.string r1, .string r2, .bool r3]) ∧ Drawn0 w w' := by
  have H : ((stringslite_Cut.f a0 a1).bind fun bt104 => (some (bt104.1, bt104.2.1, bt104.2.2))) = some (r1, r2, r3) := h
  clear h
  replace H := Option.bind_eq_some_iff.mp H
  obtain ⟨⟨t104, t105, t106⟩, A30, H⟩ := H
  replace H : (some (t104, t105, t106)) = some (r1, r2, r3) := H
  have A3 := Aside0.mk A30
  clear A30
  simp only [Option.some.injEq, Prod.mk.injEq] at H
  obtain ⟨rfl, rfl, rfl⟩ := H
  go_enter Tryd.func25, Tryd.ntmps25
  go_wp2_with (first | ((with_reducible refine gate_callee (f := 44) rfl ?_); refine goesL_ (some 9) rfl rfl Tryd.func44 (by kernel_rfl) rfl #[.string a0, .string a1] rfl (by (try simp only [List.map_toArray, List.map_cons, List.map_nil]); first | done | rfl | (simp only [List.length_drop, List.length_take]; rfl)) ?_; (with_reducible refine (stringslite_Cut.calls a0 a1 t104 t105 t106 _ A3.out).mono ?_); rintro e w' ⟨rfl, ⟨nd, rfl⟩⟩; refine ⟨_, rfl, ?_⟩))
  go_ret3
  exact ⟨by first | rfl | (simp; done) | (simp [*]; done), by repeat (first | exact Drawn0.refl _ | apply Drawn0.step)⟩
end Go.Proofs.YtpijehmhgjkkoaaDoor.Q
namespace Go.Proofs.YtpijehmhgjkkoaaDoor.Q
open Go.RowKit Go.Proofs.YtpijehmhgjkkoaaDoorW.PrintWords Go.Proofs.YtpijehmhgjkkoaaDoorW.PrintLast Go.Proofs.YtpijehmhgjkkoaaDoorW.PrintMore
attribute [local go_sem] max2_int min2_int max_two min_two max_three min_three max_four min_four   -- for this text's walks alone
set_option linter.unusedVariables false
set_option linter.unusedSimpArgs false

-- HANDPART fails.lean
/-! ### ver_fails: by hand -/
theorem ver_fails.ok (e : Int) (w : World) : Calls Tryd.prog 33 #[.bool true, .int .i64 e] w fun en w' => en = .returned (.tuple #[]) ∧ w' = w := by
  go_enter Tryd.func33, Tryd.ntmps33
  go_wp2
  go_end0
  exact ⟨rfl, rfl⟩
theorem ver_fails.no (e : Int) (w : World) : Calls Tryd.prog 33 #[.bool false, .int .i64 e] w fun en w' => en = .panicked [{ v := .iface 23 (.int .i64 e), recovered := false }] ∧ w' = w := by
  go_enter Tryd.func33, Tryd.ntmps33
  go_wp2
  exact ⟨rfl, rfl, rfl⟩
def ver_fails.f (a0 : Bool) (a1 : Int) : Option Int := if a0 = true then some 0 else if a1 = 0 then none else some a1
theorem ver_fails.calls (a0 : Bool) (a1 : Int) (w : World) (h : ver_fails.f a0 a1 = some 0) :
    Calls Tryd.prog 33 #[.bool a0, .int .i64 a1] w fun e w' => e = .returned (.tuple #[]) ∧ Drawn0 w w' := by
  cases a0
  · simp only [ver_fails.f] at h
    by_cases h0 : a1 = 0
    · simp [h0] at h
    · simp [h0] at h
  · exact (ver_fails.ok a1 w).mono fun e w' ⟨h1, h2⟩ => ⟨h1, h2 ▸ Drawn0.refl _⟩
theorem ver_fails.panics (a0 : Bool) (a1 : Int) (c : Int) (hne : c ≠ 0) (w : World) (h : ver_fails.f a0 a1 = some c) :
    Calls Tryd.prog 33 #[.bool a0, .int .i64 a1] w fun e w' => e = .panicked [{ v := .iface 23 (.int .i64 c), recovered := false }] ∧ Drawn0 w w' := by
  cases a0
  · simp only [ver_fails.f] at h
    by_cases h0 : a1 = 0
    · simp [h0] at h
    · simp [h0] at h
      subst h
      exact (ver_fails.no a1 w).mono fun e w' ⟨h1, h2⟩ => ⟨h1, h2 ▸ Drawn0.refl _⟩
  · simp [ver_fails.f] at h
    exact absurd h.symm hne
end Go.Proofs.YtpijehmhgjkkoaaDoor.Q
namespace Go.Proofs.YtpijehmhgjkkoaaDoor.Q
open Go.RowKit Go.Proofs.YtpijehmhgjkkoaaDoorW.PrintWords Go.Proofs.YtpijehmhgjkkoaaDoorW.PrintLast Go.Proofs.YtpijehmhgjkkoaaDoorW.PrintMore
attribute [local go_sem] max2_int min2_int max_two min_two max_three min_three max_four min_four   -- for this text's walks alone
set_option linter.unusedVariables false
set_option linter.unusedSimpArgs false

-- HANDPART strings_Trim.lean
/-! ### strings_Trim: by hand -/
/-- Trim at an ASCII cutset (none elsewhere). -/
def strings_Trim.f (a0 a1 : ByteArray) : Option ByteArray := if a0.size ≤ 9223372036854775807 ∧ a1.size < 4294967281 ∧ a1.data.toList.all (fun b => decide (b.toNat < 128)) = true then some ⟨(Lib.trimS a0.data.toList a1.data.toList).toArray⟩ else none
theorem strings_Trim.calls (a0 a1 : ByteArray) (r : ByteArray) (w : World) (h : strings_Trim.f a0 a1 = some r) :
    Calls Tryd.prog 34 #[.string a0, .string a1] w fun e w' => e = .returned (.string r) ∧ Below w.heap.size w w' := by
  unfold strings_Trim.f at h
  split at h
  · rename_i h1
    obtain rfl := Option.some.inj h
    exact Any.strings_Trim_laid Tryd.lays160 (by kernel_rfl) a0 a1 w h1.1 h1.2.1 (ascii_of_all h1.2.2)
  · cases h
end Go.Proofs.YtpijehmhgjkkoaaDoor.Q
namespace Go.Proofs.YtpijehmhgjkkoaaDoor.Q
open Go.RowKit Go.Proofs.YtpijehmhgjkkoaaDoorW.PrintWords Go.Proofs.YtpijehmhgjkkoaaDoorW.PrintLast Go.Proofs.YtpijehmhgjkkoaaDoorW.PrintMore
attribute [local go_sem] max2_int min2_int max_two min_two max_three min_three max_four min_four   -- for this text's walks alone
set_option linter.unusedVariables false
set_option linter.unusedSimpArgs false
/-! ### ver_digit: function 57 -/
def ver_digit.f (a0 : Int) : Option (Bool) := if a0 ≥ 48 then (some (decide (a0 ≤ 57))) else (some false)
set_option maxHeartbeats 8000000 in
set_option maxRecDepth 100000 in
theorem ver_digit.calls (a0 : Int) (r : Bool) (w : World) (h : ver_digit.f a0 = some r) :
    Calls Tryd.prog 57 #[.int .u8 a0] w fun e w' => e = .returned (.bool r) ∧ Drawn0 w w' := by
  have H : (if a0 ≥ 48 then (some (decide (a0 ≤ 57))) else (some false)) = some r := h
  clear h
  by_cases c2 : a0 ≥ 48
  · rw [if_pos c2] at H
    have c2b0 : decide (48 ≤ a0) = true := decide_eq_true c2
    clear c2
    obtain rfl := Option.some.inj H
    go_enter Tryd.func57, Tryd.ntmps57
    go_wp2
    go_ret
    exact ⟨by first | rfl | (simp; done) | (simp [*]; done), by repeat (first | exact Drawn0.refl _ | apply Drawn0.step)⟩
  · rw [if_neg c2] at H
    have c2b0 : decide (48 ≤ a0) = false := decide_eq_false c2
    clear c2
    obtain rfl := Option.some.inj H
    go_enter Tryd.func57, Tryd.ntmps57
    go_wp2
    go_ret
    exact ⟨by first | rfl | (simp; done) | (simp [*]; done), by repeat (first | exact Drawn0.refl _ | apply Drawn0.step)⟩
end Go.Proofs.YtpijehmhgjkkoaaDoor.Q
namespace Go.Proofs.YtpijehmhgjkkoaaDoor.Q
open Go.RowKit Go.Proofs.YtpijehmhgjkkoaaDoorW.PrintWords Go.Proofs.YtpijehmhgjkkoaaDoorW.PrintLast Go.Proofs.YtpijehmhgjkkoaaDoorW.PrintMore
attribute [local go_sem] max2_int min2_int max_two min_two max_three min_three max_four min_four   -- for this text's walks alone
set_option linter.unusedVariables false
set_option linter.unusedSimpArgs false
/-! ### ver_letter: function 58 -/
def ver_letter.f (a0 : Int) : Option (Bool) := if a0 ≥ 97 then (if a0 ≤ 122 then (some true) else (if a0 ≥ 65 then (some (decide (a0 ≤ 90))) else (some false))) else (if a0 ≥ 65 then (some (decide (a0 ≤ 90))) else (some false))
set_option maxHeartbeats 8000000 in
set_option maxRecDepth 100000 in
theorem ver_letter.calls (a0 : Int) (r : Bool) (w : World) (h : ver_letter.f a0 = some r) :
    Calls Tryd.prog 58 #[.int .u8 a0] w fun e w' => e = .returned (.bool r) ∧ Drawn0 w w' := by
  have H : (if a0 ≥ 97 then (if a0 ≤ 122 then (some true) else (if a0 ≥ 65 then (some (decide (a0 ≤ 90))) else (some false))) else (if a0 ≥ 65 then (some (decide (a0 ≤ 90))) else (some false))) = some r := h
  clear h
  by_cases c2 : a0 ≥ 97
  · rw [if_pos c2] at H
    have c2b0 : decide (97 ≤ a0) = true := decide_eq_true c2
    clear c2
    by_cases c3 : a0 ≤ 122
    · rw [if_pos c3] at H
      have c3b0 : decide (a0 ≤ 122) = true := decide_eq_true c3
      clear c3
      obtain rfl := Option.some.inj H
      go_enter Tryd.func58, Tryd.ntmps58
      go_wp2
      go_ret
      exact ⟨by first | rfl | (simp; done) | (simp [*]; done), by repeat (first | exact Drawn0.refl _ | apply Drawn0.step)⟩
    · rw [if_neg c3] at H
      have c3b0 : decide (a0 ≤ 122) = false := decide_eq_false c3
      clear c3
      by_cases c4 : a0 ≥ 65
      · rw [if_pos c4] at H
        have c4b0 : decide (65 ≤ a0) = true := decide_eq_true c4
        clear c4
        obtain rfl := Option.some.inj H
        go_enter Tryd.func58, Tryd.ntmps58
        go_wp2
        go_ret
        exact ⟨by first | rfl | (simp; done) | (simp [*]; done), by repeat (first | exact Drawn0.refl _ | apply Drawn0.step)⟩
      · rw [if_neg c4] at H
        have c4b0 : decide (65 ≤ a0) = false := decide_eq_false c4
        clear c4
        obtain rfl := Option.some.inj H
        go_enter Tryd.func58, Tryd.ntmps58
        go_wp2
        go_ret
        exact ⟨by first | rfl | (simp; done) | (simp [*]; done), by repeat (first | exact Drawn0.refl _ | apply Drawn0.step)⟩
  · rw [if_neg c2] at H
    have c2b0 : decide (97 ≤ a0) = false := decide_eq_false c2
    clear c2
    by_cases c5 : a0 ≥ 65
    · rw [if_pos c5] at H
      have c5b0 : decide (65 ≤ a0) = true := decide_eq_true c5
      clear c5
      obtain rfl := Option.some.inj H
      go_enter Tryd.func58, Tryd.ntmps58
      go_wp2
      go_ret
      exact ⟨by first | rfl | (simp; done) | (simp [*]; done), by repeat (first | exact Drawn0.refl _ | apply Drawn0.step)⟩
    · rw [if_neg c5] at H
      have c5b0 : decide (65 ≤ a0) = false := decide_eq_false c5
      clear c5
      obtain rfl := Option.some.inj H
      go_enter Tryd.func58, Tryd.ntmps58
      go_wp2
      go_ret
      exact ⟨by first | rfl | (simp; done) | (simp [*]; done), by repeat (first | exact Drawn0.refl _ | apply Drawn0.step)⟩
end Go.Proofs.YtpijehmhgjkkoaaDoor.Q
namespace Go.Proofs.YtpijehmhgjkkoaaDoor.Q
open Go.RowKit Go.Proofs.YtpijehmhgjkkoaaDoorW.PrintWords Go.Proofs.YtpijehmhgjkkoaaDoorW.PrintLast Go.Proofs.YtpijehmhgjkkoaaDoorW.PrintMore
attribute [local go_sem] max2_int min2_int max_two min_two max_three min_three max_four min_four   -- for this text's walks alone
set_option linter.unusedVariables false
set_option linter.unusedSimpArgs false

-- HANDPART strings_IndexByte.lean
/-! ### strings_IndexByte: by hand -/
def strings_IndexByte.f (a0 : ByteArray) (a1 : Int) : Option Int := some (Lib.indexByte a0.data.toList a1.toNat.toUInt8)
theorem strings_IndexByte.calls (a0 : ByteArray) (a1 : Int) (r : Int) (w : World) (h : strings_IndexByte.f a0 a1 = some r) :
    Calls Tryd.prog 59 #[.string a0, .int .u8 a1] w fun e w' => e = .returned (.int .i64 r) ∧ Drawn0 w w' := by
  obtain rfl := Option.some.inj h
  exact (Tryd.strings_IndexByte a0 a1 w).mono fun e w' ⟨h1, h2⟩ => ⟨h1, h2 ▸ Drawn0.refl _⟩
end Go.Proofs.YtpijehmhgjkkoaaDoor.Q
namespace Go.Proofs.YtpijehmhgjkkoaaDoor.Q
open Go.RowKit Go.Proofs.YtpijehmhgjkkoaaDoorW.PrintWords Go.Proofs.YtpijehmhgjkkoaaDoorW.PrintLast Go.Proofs.YtpijehmhgjkkoaaDoorW.PrintMore
attribute [local go_sem] max2_int min2_int max_two min_two max_three min_three max_four min_four   -- for this text's walks alone
set_option linter.unusedVariables false
set_option linter.unusedSimpArgs false
/-! ### ver_runs: function 35 -/
mutual
def ver_runs.j0 : Nat → ByteArray → Option (Int)
  | 0, _ => none
  | k + 1, x0 => ver_runs.l0 k x0 (x0.size : Int) 0
def ver_runs.l0 : Nat → ByteArray → Int → Int → Option (Int)
  | 0, _, _, _ => none
  | k + 1, x0, x20, x21 => if x21 < x20 then (if 0 ≤ x21 then (if x21 < (x0.size : Int) then ((ver_digit.f (bt x0 x21)).bind fun t112 => (if t112 = true then ((ver_fails.f true 5).bind fun t113 => (if t113 = 0 then (ver_runs.l0 k x0 x20 (wrap64 (x21 + 1))) else (some t113))) else ((ver_letter.f (bt x0 x21)).bind fun t114 => (if t114 = true then ((ver_fails.f true 5).bind fun t115 => (if t115 = 0 then (ver_runs.l0 k x0 x20 (wrap64 (x21 + 1))) else (some t115))) else ((strings_IndexByte.f (⟨#[46, 43, 126]⟩ : ByteArray) (bt x0 x21)).bind fun t116 => ((ver_fails.f (decide (t116 ≥ 0)) 5).bind fun t117 => (if t117 = 0 then (ver_runs.l0 k x0 x20 (wrap64 (x21 + 1))) else (some t117)))))))) else (none)) else (none)) else (some 0)
end
def ver_runs.f (k : Nat) (a0 : ByteArray) : Option (Int) := if a0.toList = ([] : List UInt8) then ((ver_fails.f false 5).bind fun t107 => (if t107 = 0 then (ver_runs.j0 k a0) else (some t107))) else (if 0 < (a0.size : Int) then ((ver_digit.f (bt a0 0)).bind fun t108 => (if t108 = true then (if 0 ≤ (wrap64 ((a0.size : Int) - 1)) then (if (wrap64 ((a0.size : Int) - 1)) < (a0.size : Int) then ((ver_digit.f (bt a0 (wrap64 ((a0.size : Int) - 1)))).bind fun t109 => ((ver_fails.f t109 5).bind fun t110 => (if t110 = 0 then (ver_runs.j0 k a0) else (some t110)))) else (none)) else (none)) else ((ver_fails.f false 5).bind fun t111 => (if t111 = 0 then (ver_runs.j0 k a0) else (some t111))))) else (none))
theorem ver_runs.mono_l : ∀ k, (∀ y0, LeO (ver_runs.j0 k y0) (ver_runs.j0 (k + 1) y0)) ∧ (∀ y0 y1 y2, LeO (ver_runs.l0 k y0 y1 y2) (ver_runs.l0 (k + 1) y0 y1 y2))
  | 0 => ⟨fun _ r h => by simp [ver_runs.j0] at h, fun _ _ _ r h => by simp [ver_runs.l0] at h⟩
  | k + 1 => by
    obtain ⟨ih0, ih1⟩ := ver_runs.mono_l k
    refine ⟨?_, ?_⟩
    · intro y0
      unfold ver_runs.j0
      repeat' first
      | (with_reducible exact ih0 _)
      | (with_reducible exact ih1 _ _ _)
      | (with_reducible exact LeO.refl _)
      | (with_reducible exact LeO.none _)
      | (with_reducible refine LeO.ite ?_ ?_)
      | (with_reducible refine LeO.bind ?_ (fun _ => ?_))
      | exact ih0 _
      | exact ih1 _ _ _
      | exact LeO.none _
      | refine LeO.ite ?_ ?_
      | refine LeO.bind ?_ (fun _ => ?_)
    · intro y0 y1 y2
      unfold ver_runs.l0
      repeat' first
      | (with_reducible exact ih0 _)
      | (with_reducible exact ih1 _ _ _)
      | (with_reducible exact LeO.refl _)
      | (with_reducible exact LeO.none _)
      | (with_reducible refine LeO.ite ?_ ?_)
      | (with_reducible refine LeO.bind ?_ (fun _ => ?_))
      | exact ih0 _
      | exact ih1 _ _ _
      | exact LeO.none _
      | refine LeO.ite ?_ ?_
      | refine LeO.bind ?_ (fun _ => ?_)
theorem ver_runs.mono : ∀ a0 k, LeO (ver_runs.f k a0) (ver_runs.f (k + 1) a0) := by
  intro a0 k
  obtain ⟨ih0, ih1⟩ := ver_runs.mono_l k
  unfold ver_runs.f
  repeat' first
      | (with_reducible exact ih0 _)
      | (with_reducible exact ih1 _ _ _)
      | (with_reducible exact LeO.refl _)
      | (with_reducible exact LeO.none _)
      | (with_reducible refine LeO.ite ?_ ?_)
      | (with_reducible refine LeO.bind ?_ (fun _ => ?_))
      | exact ih0 _
      | exact ih1 _ _ _
      | exact LeO.none _
      | refine LeO.ite ?_ ?_
      | refine LeO.bind ?_ (fun _ => ?_)
set_option maxHeartbeats 8000000 in
set_option maxRecDepth 100000 in
theorem ver_runs.calls (k : Nat) (a0 : ByteArray) (w : World) (h : ver_runs.f k a0 = some (0 : Int)) :
    Calls Tryd.prog 35 #[.string a0] w fun e w' => e = .returned (.tuple #[]) ∧ Drawn0 w w' := by
  have H : (if a0.toList = ([] : List UInt8) then ((ver_fails.f false 5).bind fun t107 => (if t107 = 0 then (ver_runs.j0 k a0) else (some t107))) else (if 0 < (a0.size : Int) then ((ver_digit.f (bt a0 0)).bind fun t108 => (if t108 = true then (if 0 ≤ (wrap64 ((a0.size : Int) - 1)) then (if (wrap64 ((a0.size : Int) - 1)) < (a0.size : Int) then ((ver_digit.f (bt a0 (wrap64 ((a0.size : Int) - 1)))).bind fun t109 => ((ver_fails.f t109 5).bind fun t110 => (if t110 = 0 then (ver_runs.j0 k a0) else (some t110)))) else (none)) else (none)) else ((ver_fails.f false 5).bind fun t111 => (if t111 = 0 then (ver_runs.j0 k a0) else (some t111))))) else (none))) = some (0 : Int) := h
  clear h
  have HC2 := Aside0.mk H
  clear H
  go_enter Tryd.func35, Tryd.ntmps35
  go_upto_region 0 with (fail)
  go_cut [] (fun wc => ∃ (kq : Nat), Aside0 (ver_runs.j0 kq a0 = some (0 : Int)) ∧ Aside0 (kq ≤ k) ∧ Drawn0 w wc)
  case first =>
    have H := HC2.out
    clear HC2
    by_cases c3 : a0.toList = ([] : List UInt8)
    · rw [if_pos c3] at H
      have c3b0 : (a0.toList == ([] : List UInt8)) = true := beq_iff_eq.mpr c3
      have c3b1 : (a0.toList != ([] : List UInt8)) = false := bne_eq_false_iff_eq.mpr c3
      have c3b2 : a0.toList.isEmpty = true := List.isEmpty_iff.mpr c3
      clear c3
      (first | rw [c3b0] | (simp only [i64_w, i32_w]; rw [c3b0]) | rw [c3b2] | skip)
      replace H := Option.bind_eq_some_iff.mp H
      obtain ⟨t107, A40, H⟩ := H
      replace H : (if t107 = 0 then (ver_runs.j0 k a0) else (some t107)) = some (0 : Int) := H
      have A4 := Aside0.mk A40
      clear A40
      by_cases c5 : t107 = 0
      · subst c5
        have H1 : (ver_runs.j0 k a0) = some (0 : Int) := by rw [if_pos rfl] at H; exact H
        clear H
        have H := H1
        clear H1
        have H' := Aside0.mk H
        clear H
        go_wp2_with (first | ((with_reducible refine gate_callee (f := 33) rfl ?_); refine goesL_ (some 18) rfl rfl Tryd.func33 (by kernel_rfl) rfl #[.bool false, .int .i64 5] rfl (by (try simp only [List.map_toArray, List.map_cons, List.map_nil]); first | done | rfl | (simp only [List.length_drop, List.length_take]; rfl)) ?_; (with_reducible refine (ver_fails.calls false 5  _ A4.out).mono ?_); rintro e w' ⟨rfl, ⟨nd, rfl⟩⟩; refine ⟨_, rfl, ?_⟩))
        go_meet
        case rel => exact ⟨_, H', ⟨by first | omega | exact Nat.le_refl _⟩, by repeat (first | exact Drawn0.refl _ | apply Drawn0.step)⟩
      · rw [if_neg c5] at H
        have Pc5 := Aside0.mk c5
        clear c5
        exact absurd (congrArg (fun z_ => z_) (Option.some.inj H)) Pc5.out
    · rw [if_neg c3] at H
      have c3b0 : (a0.toList == ([] : List UInt8)) = false := beq_eq_false_iff_ne.mpr c3
      have c3b1 : (a0.toList != ([] : List UInt8)) = true := bne_iff_ne.mpr c3
      have c3b2 : a0.toList.isEmpty = false := Bool.eq_false_iff.mpr (fun h_ => c3 (List.isEmpty_iff.mp h_))
      (first | rw [c3b0] | (simp only [i64_w, i32_w]; rw [c3b0]) | rw [c3b2] | skip)
      by_cases c6 : 0 < (a0.size : Int)
      · rw [if_pos c6] at H
        have c6b0 : decide (0 < (a0.size : Int)) = true := decide_eq_true c6
        have c6b1 : decide (0 < a0.size) = true := decide_eq_true (by omega)
        clear c6
        replace H := Option.bind_eq_some_iff.mp H
        obtain ⟨t108, A80, H⟩ := H
        replace H : (if t108 = true then (if 0 ≤ (wrap64 ((a0.size : Int) - 1)) then (if (wrap64 ((a0.size : Int) - 1)) < (a0.size : Int) then ((ver_digit.f (bt a0 (wrap64 ((a0.size : Int) - 1)))).bind fun t109 => ((ver_fails.f t109 5).bind fun t110 => (if t110 = 0 then (ver_runs.j0 k a0) else (some t110)))) else (none)) else (none)) else ((ver_fails.f false 5).bind fun t111 => (if t111 = 0 then (ver_runs.j0 k a0) else (some t111)))) = some (0 : Int) := H
        have A8 := Aside0.mk A80
        clear A80
        by_cases c9 : t108 = true
        · subst c9
          have H1 : (if 0 ≤ (wrap64 ((a0.size : Int) - 1)) then (if (wrap64 ((a0.size : Int) - 1)) < (a0.size : Int) then ((ver_digit.f (bt a0 (wrap64 ((a0.size : Int) - 1)))).bind fun t109 => ((ver_fails.f t109 5).bind fun t110 => (if t110 = 0 then (ver_runs.j0 k a0) else (some t110)))) else (none)) else (none)) = some (0 : Int) := by rw [if_pos rfl] at H; exact H
          clear H
          have H := H1
          clear H1
          obtain ⟨ji10, hji10⟩ : ∃ j_ : Int, (wrap64 ((a0.size : Int) - 1)) = j_ := ⟨_, rfl⟩
          replace H : (if 0 ≤ (ji10) then (if (ji10) < (a0.size : Int) then ((ver_digit.f (bt a0 (ji10))).bind fun t109 => ((ver_fails.f t109 5).bind fun t110 => (if t110 = 0 then (ver_runs.j0 k a0) else (some t110)))) else (none)) else (none)) = some (0 : Int) := by first | (rw [hji10] at H; exact H) | (simp only [hji10] at H ⊢; exact H)
          (try rw [hji10] at A8)
          have hji10w : (IntKind.i64.wrap ((a0.size : Int) - 1)) = ji10 := (i64_w _).trans hji10
          by_cases c11 : 0 ≤ (ji10)
          · rw [if_pos c11] at H
            have c11b0 : decide (0 ≤ (ji10)) = true := decide_eq_true c11
            clear c11
            by_cases c12 : (ji10) < (a0.size : Int)
            · rw [if_pos c12] at H
              have c12b0 : decide ((ji10) < (a0.size : Int)) = true := decide_eq_true c12
              clear c12
              replace H := Option.bind_eq_some_iff.mp H
              obtain ⟨t109, A140, H⟩ := H
              replace H : ((ver_fails.f t109 5).bind fun t110 => (if t110 = 0 then (ver_runs.j0 k a0) else (some t110))) = some (0 : Int) := H
              have A14 := Aside0.mk A140
              clear A140
              replace H := Option.bind_eq_some_iff.mp H
              obtain ⟨t110, A150, H⟩ := H
              replace H : (if t110 = 0 then (ver_runs.j0 k a0) else (some t110)) = some (0 : Int) := H
              have A15 := Aside0.mk A150
              clear A150
              by_cases c16 : t110 = 0
              · subst c16
                have H1 : (ver_runs.j0 k a0) = some (0 : Int) := by rw [if_pos rfl] at H; exact H
                clear H
                have H := H1
                clear H1
                have H' := Aside0.mk H
                clear H
                have p7 : 0 ≤ (0 : Int) := (by omega)
                have q7 : 0 < a0.size := (by have : (0 : Int) < (a0.size : Int) := of_decide_eq_true (by first | (with_reducible assumption) | assumption); omega)
                have hx7 : ∀ h : 0 < a0.size, ((a0[0]'h).toNat : Int) = bt a0 0 := bt_at a0 0
                clear p7
                have qi7 : (0 < (a0.size : Int)) = True := eq_true (of_decide_eq_true (by first | (with_reducible assumption) | assumption))
                replace q7 := eq_true q7
                go_wp2_with (first | (go_at_call 57; (with_reducible refine (ver_digit.calls (bt a0 0) true _ A8.out).mono ?_); rintro e w' ⟨rfl, ⟨nd, rfl⟩⟩; have p13 : 0 ≤ ((ji10) : Int) := of_decide_eq_true (by first | (with_reducible assumption) | assumption); have q13 : (ji10) < (a0.size : Int) := of_decide_eq_true (by first | (with_reducible assumption) | assumption); have hx13 := bt_at a0 (ji10); replace p13 := eq_true p13; replace q13 := eq_true q13) | (go_at_call 57; (with_reducible refine (ver_digit.calls (bt a0 (ji10)) t109 _ A14.out).mono ?_); rintro e w' ⟨rfl, ⟨nd, rfl⟩⟩) | ((with_reducible refine gate_callee (f := 33) rfl ?_); refine goesL_ (some 18) rfl rfl Tryd.func33 (by kernel_rfl) rfl #[.bool t109, .int .i64 5] rfl (by (try simp only [List.map_toArray, List.map_cons, List.map_nil]); first | done | rfl | (simp only [List.length_drop, List.length_take]; rfl)) ?_; (with_reducible refine (ver_fails.calls t109 5  _ A15.out).mono ?_); rintro e w' ⟨rfl, ⟨nd, rfl⟩⟩; refine ⟨_, rfl, ?_⟩))
                go_meet
                case rel => exact ⟨_, H', ⟨by first | omega | exact Nat.le_refl _⟩, by repeat (first | exact Drawn0.refl _ | apply Drawn0.step)⟩
              · rw [if_neg c16] at H
                have Pc16 := Aside0.mk c16
                clear c16
                exact absurd (congrArg (fun z_ => z_) (Option.some.inj H)) Pc16.out
            · rw [if_neg c12] at H
              exact absurd H (by simp)
          · rw [if_neg c11] at H
            exact absurd H (by simp)
        · replace c9 := Bool.eq_false_iff.mpr c9
          subst c9
          have H1 : ((ver_fails.f false 5).bind fun t111 => (if t111 = 0 then (ver_runs.j0 k a0) else (some t111))) = some (0 : Int) := by rw [if_neg (show ¬ (false = true) by decide)] at H; exact H
          clear H
          have H := H1
          clear H1
          replace H := Option.bind_eq_some_iff.mp H
          obtain ⟨t111, A170, H⟩ := H
          replace H : (if t111 = 0 then (ver_runs.j0 k a0) else (some t111)) = some (0 : Int) := H
          have A17 := Aside0.mk A170
          clear A170
          by_cases c18 : t111 = 0
          · subst c18
            have H1 : (ver_runs.j0 k a0) = some (0 : Int) := by rw [if_pos rfl] at H; exact H
            clear H
            have H := H1
            clear H1
            have H' := Aside0.mk H
            clear H
            have p7 : 0 ≤ (0 : Int) := (by omega)
            have q7 : 0 < a0.size := (by have : (0 : Int) < (a0.size : Int) := of_decide_eq_true (by first | (with_reducible assumption) | assumption); omega)
            have hx7 : ∀ h : 0 < a0.size, ((a0[0]'h).toNat : Int) = bt a0 0 := bt_at a0 0
            clear p7
            have qi7 : (0 < (a0.size : Int)) = True := eq_true (of_decide_eq_true (by first | (with_reducible assumption) | assumption))
            replace q7 := eq_true q7
            go_wp2_with (first | (go_at_call 57; (with_reducible refine (ver_digit.calls (bt a0 0) false _ A8.out).mono ?_); rintro e w' ⟨rfl, ⟨nd, rfl⟩⟩) | ((with_reducible refine gate_callee (f := 33) rfl ?_); refine goesL_ (some 18) rfl rfl Tryd.func33 (by kernel_rfl) rfl #[.bool false, .int .i64 5] rfl (by (try simp only [List.map_toArray, List.map_cons, List.map_nil]); first | done | rfl | (simp only [List.length_drop, List.length_take]; rfl)) ?_; (with_reducible refine (ver_fails.calls false 5  _ A17.out).mono ?_); rintro e w' ⟨rfl, ⟨nd, rfl⟩⟩; refine ⟨_, rfl, ?_⟩))
            go_meet
            case rel => exact ⟨_, H', ⟨by first | omega | exact Nat.le_refl _⟩, by repeat (first | exact Drawn0.refl _ | apply Drawn0.step)⟩
          · rw [if_neg c18] at H
            have Pc18 := Aside0.mk c18
            clear c18
            exact absurd (congrArg (fun z_ => z_) (Option.some.inj H)) Pc18.out
      · rw [if_neg c6] at H
        exact absurd H (by simp)
  case rest =>
    clear HC2
    try clear c1
    try clear p1
    try clear q1
    try clear hx1
    try clear p2
    try clear c3
    try clear c3b0
    try clear c3b1
    try clear c3b2
    try clear c5
    try clear c6
    try clear c6b0
    try clear c6b1
    try clear p6
    try clear p7
    try clear q7
    try clear hx7
    try clear qi7
    try clear c9
    try clear c11
    try clear c11b0
    try clear c12
    try clear c12b0
    try clear p13
    try clear q13
    try clear hx13
    try clear c16
    try clear c18
    try clear p13
    try clear p7
    try clear q13
    try clear q7
    obtain ⟨kq, HA, HJ1, ⟨mc1, rfl⟩⟩ := hcut
    cases kq with
    | zero => exact absurd HA.out (by simp [ver_runs.j0])
    | succ kj1 =>
      have H := HA.out
      clear HA
      simp only [ver_runs.j0] at H
      have H' := Aside0.mk H
      clear H
      go_wp2
      go_loopg [21] kj1 (fun kq v21 w' => ∃ (x21_2 : Int), v21 = .int .i64 x21_2 ∧ Aside0 (ver_runs.l0 kq a0 (a0.size : Int) x21_2 = some (0 : Int)) ∧ Aside0 (kq ≤ kj1) ∧ Drawn0 w w')
      case atStart => exact ⟨(0), (by first | rfl | (simp; done) | (simp [*]; done)), H', ⟨Nat.le_refl _⟩, by repeat (first | exact Drawn0.refl _ | apply Drawn0.step)⟩
      case round =>
        clear H'
        try clear c1
        try clear p1
        try clear q1
        try clear hx1
        try clear p2
        try clear c3
        try clear c3b0
        try clear c3b1
        try clear c3b2
        try clear c5
        try clear c6
        try clear c6b0
        try clear c6b1
        try clear p6
        try clear p7
        try clear q7
        try clear hx7
        try clear qi7
        try clear c9
        try clear c11
        try clear c11b0
        try clear c12
        try clear c12b0
        try clear p13
        try clear q13
        try clear hx13
        try clear c16
        try clear c18
        try clear p1
        try clear p13
        try clear p2
        try clear p6
        try clear p7
        try clear q1
        try clear q13
        try clear q7
        obtain ⟨x21_2, rfl, HA, HK2, ⟨m2, rfl⟩⟩ := hrel
        cases gk with
        | zero => exact absurd HA.out (by simp [ver_runs.l0])
        | succ k2 =>
          have H := HA.out
          clear HA
          simp only [ver_runs.l0] at H
          by_cases c19 : x21_2 < (a0.size : Int)
          · rw [if_pos c19] at H
            have c19b0 : decide (x21_2 < (a0.size : Int)) = true := decide_eq_true c19
            clear c19
            by_cases c20 : 0 ≤ x21_2
            · rw [if_pos c20] at H
              have c20b0 : decide (0 ≤ x21_2) = true := decide_eq_true c20
              clear c20
              by_cases c21 : x21_2 < (a0.size : Int)
              · rw [if_pos c21] at H
                have c21b0 : decide (x21_2 < (a0.size : Int)) = true := decide_eq_true c21
                clear c21
                replace H := Option.bind_eq_some_iff.mp H
                obtain ⟨t112, A230, H⟩ := H
                replace H : (if t112 = true then ((ver_fails.f true 5).bind fun t113 => (if t113 = 0 then (ver_runs.l0 k2 a0 (a0.size : Int) (wrap64 (x21_2 + 1))) else (some t113))) else ((ver_letter.f (bt a0 x21_2)).bind fun t114 => (if t114 = true then ((ver_fails.f true 5).bind fun t115 => (if t115 = 0 then (ver_runs.l0 k2 a0 (a0.size : Int) (wrap64 (x21_2 + 1))) else (some t115))) else ((strings_IndexByte.f (⟨#[46, 43, 126]⟩ : ByteArray) (bt a0 x21_2)).bind fun t116 => ((ver_fails.f (decide (t116 ≥ 0)) 5).bind fun t117 => (if t117 = 0 then (ver_runs.l0 k2 a0 (a0.size : Int) (wrap64 (x21_2 + 1))) else (some t117))))))) = some (0 : Int) := H
                have A23 := Aside0.mk A230
                clear A230
                by_cases c24 : t112 = true
                · subst c24
                  have H1 : ((ver_fails.f true 5).bind fun t113 => (if t113 = 0 then (ver_runs.l0 k2 a0 (a0.size : Int) (wrap64 (x21_2 + 1))) else (some t113))) = some (0 : Int) := by rw [if_pos rfl] at H; exact H
                  clear H
                  have H := H1
                  clear H1
                  replace H := Option.bind_eq_some_iff.mp H
                  obtain ⟨t113, A250, H⟩ := H
                  replace H : (if t113 = 0 then (ver_runs.l0 k2 a0 (a0.size : Int) (wrap64 (x21_2 + 1))) else (some t113)) = some (0 : Int) := H
                  have A25 := Aside0.mk A250
                  clear A250
                  by_cases c26 : t113 = 0
                  · subst c26
                    have H1 : (ver_runs.l0 k2 a0 (a0.size : Int) (wrap64 (x21_2 + 1))) = some (0 : Int) := by rw [if_pos rfl] at H; exact H
                    clear H
                    have H := H1
                    clear H1
                    have H' := Aside0.mk H
                    clear H
                    have p22 : 0 ≤ (x21_2 : Int) := of_decide_eq_true (by first | (with_reducible assumption) | assumption)
                    have q22 : x21_2 < (a0.size : Int) := of_decide_eq_true (by first | (with_reducible assumption) | assumption)
                    have hx22 := bt_at a0 x21_2
                    replace p22 := eq_true p22
                    replace q22 := eq_true q22
                    go_wp2_with (first | ((with_reducible refine gate_callee (f := 57) rfl ?_); refine goesL_ (some 27) rfl rfl Tryd.func57 (by kernel_rfl) rfl #[.int .u8 (bt a0 x21_2)] rfl (by (try simp only [List.map_toArray, List.map_cons, List.map_nil]); first | done | rfl | (simp only [List.length_drop, List.length_take]; rfl)) ?_; (with_reducible refine (ver_digit.calls (bt a0 x21_2) true _ A23.out).mono ?_); rintro e w' ⟨rfl, ⟨nd, rfl⟩⟩; refine ⟨_, rfl, ?_⟩) | ((with_reducible refine gate_callee (f := 33) rfl ?_); refine goesL_ (some 41) rfl rfl Tryd.func33 (by kernel_rfl) rfl #[.bool true, .int .i64 5] rfl (by (try simp only [List.map_toArray, List.map_cons, List.map_nil]); first | done | rfl | (simp only [List.length_drop, List.length_take]; rfl)) ?_; (with_reducible refine (ver_fails.calls true 5  _ A25.out).mono ?_); rintro e w' ⟨rfl, ⟨nd, rfl⟩⟩; refine ⟨_, rfl, ?_⟩))
                    go_roundg k2
                    case measure => have := HJ1.out; have := HK2.out; omega
                    case rel => exact ⟨(wrap64 (x21_2 + 1)), (by first | rfl | (simp; done) | (simp [*]; done)), H', ⟨by have := HJ1.out; have := HK2.out; omega⟩, by repeat (first | exact Drawn0.refl _ | apply Drawn0.step)⟩
                  · rw [if_neg c26] at H
                    have Pc26 := Aside0.mk c26
                    clear c26
                    exact absurd (congrArg (fun z_ => z_) (Option.some.inj H)) Pc26.out
                · replace c24 := Bool.eq_false_iff.mpr c24
                  subst c24
                  have H1 : ((ver_letter.f (bt a0 x21_2)).bind fun t114 => (if t114 = true then ((ver_fails.f true 5).bind fun t115 => (if t115 = 0 then (ver_runs.l0 k2 a0 (a0.size : Int) (wrap64 (x21_2 + 1))) else (some t115))) else ((strings_IndexByte.f (⟨#[46, 43, 126]⟩ : ByteArray) (bt a0 x21_2)).bind fun t116 => ((ver_fails.f (decide (t116 ≥ 0)) 5).bind fun t117 => (if t117 = 0 then (ver_runs.l0 k2 a0 (a0.size : Int) (wrap64 (x21_2 + 1))) else (some t117)))))) = some (0 : Int) := by rw [if_neg (show ¬ (false = true) by decide)] at H; exact H
                  clear H
                  have H := H1
                  clear H1
                  replace H := Option.bind_eq_some_iff.mp H
                  obtain ⟨t114, A280, H⟩ := H
                  replace H : (if t114 = true then ((ver_fails.f true 5).bind fun t115 => (if t115 = 0 then (ver_runs.l0 k2 a0 (a0.size : Int) (wrap64 (x21_2 + 1))) else (some t115))) else ((strings_IndexByte.f (⟨#[46, 43, 126]⟩ : ByteArray) (bt a0 x21_2)).bind fun t116 => ((ver_fails.f (decide (t116 ≥ 0)) 5).bind fun t117 => (if t117 = 0 then (ver_runs.l0 k2 a0 (a0.size : Int) (wrap64 (x21_2 + 1))) else (some t117))))) = some (0 : Int) := H
                  have A28 := Aside0.mk A280
                  clear A280
                  by_cases c29 : t114 = true
                  · subst c29
                    have H1 : ((ver_fails.f true 5).bind fun t115 => (if t115 = 0 then (ver_runs.l0 k2 a0 (a0.size : Int) (wrap64 (x21_2 + 1))) else (some t115))) = some (0 : Int) := by rw [if_pos rfl] at H; exact H
                    clear H
                    have H := H1
                    clear H1
                    replace H := Option.bind_eq_some_iff.mp H
                    obtain ⟨t115, A300, H⟩ := H
                    replace H : (if t115 = 0 then (ver_runs.l0 k2 a0 (a0.size : Int) (wrap64 (x21_2 + 1))) else (some t115)) = some (0 : Int) := H
                    have A30 := Aside0.mk A300
                    clear A300
                    by_cases c31 : t115 = 0
                    · subst c31
                      have H1 : (ver_runs.l0 k2 a0 (a0.size : Int) (wrap64 (x21_2 + 1))) = some (0 : Int) := by rw [if_pos rfl] at H; exact H
                      clear H
                      have H := H1
                      clear H1
                      have H' := Aside0.mk H
                      clear H
                      have p22 : 0 ≤ (x21_2 : Int) := of_decide_eq_true (by first | (with_reducible assumption) | assumption)
                      have q22 : x21_2 < (a0.size : Int) := of_decide_eq_true (by first | (with_reducible assumption) | assumption)
                      have hx22 := bt_at a0 x21_2
                      replace p22 := eq_true p22
                      replace q22 := eq_true q22
                      go_wp2_with (first | ((with_reducible refine gate_callee (f := 57) rfl ?_); refine goesL_ (some 27) rfl rfl Tryd.func57 (by kernel_rfl) rfl #[.int .u8 (bt a0 x21_2)] rfl (by (try simp only [List.map_toArray, List.map_cons, List.map_nil]); first | done | rfl | (simp only [List.length_drop, List.length_take]; rfl)) ?_; (with_reducible refine (ver_digit.calls (bt a0 x21_2) false _ A23.out).mono ?_); rintro e w' ⟨rfl, ⟨nd, rfl⟩⟩; refine ⟨_, rfl, ?_⟩; have p27 : 0 ≤ (x21_2 : Int) := of_decide_eq_true (by first | (with_reducible assumption) | assumption); have q27 : x21_2 < (a0.size : Int) := of_decide_eq_true (by first | (with_reducible assumption) | assumption); have hx27 := bt_at a0 x21_2; replace p27 := eq_true p27; replace q27 := eq_true q27) | (go_at_call 58; (with_reducible refine (ver_letter.calls (bt a0 x21_2) true _ A28.out).mono ?_); rintro e w' ⟨rfl, ⟨nd, rfl⟩⟩) | ((with_reducible refine gate_callee (f := 33) rfl ?_); refine goesL_ (some 41) rfl rfl Tryd.func33 (by kernel_rfl) rfl #[.bool true, .int .i64 5] rfl (by (try simp only [List.map_toArray, List.map_cons, List.map_nil]); first | done | rfl | (simp only [List.length_drop, List.length_take]; rfl)) ?_; (with_reducible refine (ver_fails.calls true 5  _ A30.out).mono ?_); rintro e w' ⟨rfl, ⟨nd, rfl⟩⟩; refine ⟨_, rfl, ?_⟩))
                      go_roundg k2
                      case measure => have := HJ1.out; have := HK2.out; omega
                      case rel => exact ⟨(wrap64 (x21_2 + 1)), (by first | rfl | (simp; done) | (simp [*]; done)), H', ⟨by have := HJ1.out; have := HK2.out; omega⟩, by repeat (first | exact Drawn0.refl _ | apply Drawn0.step)⟩
                    · rw [if_neg c31] at H
                      have Pc31 := Aside0.mk c31
                      clear c31
                      exact absurd (congrArg (fun z_ => z_) (Option.some.inj H)) Pc31.out
                  · replace c29 := Bool.eq_false_iff.mpr c29
                    subst c29
                    have H1 : ((strings_IndexByte.f (⟨#[46, 43, 126]⟩ : ByteArray) (bt a0 x21_2)).bind fun t116 => ((ver_fails.f (decide (t116 ≥ 0)) 5).bind fun t117 => (if t117 = 0 then (ver_runs.l0 k2 a0 (a0.size : Int) (wrap64 (x21_2 + 1))) else (some t117)))) = some (0 : Int) := by rw [if_neg (show ¬ (false = true) by decide)] at H; exact H
                    clear H
                    have H := H1
                    clear H1
                    replace H := Option.bind_eq_some_iff.mp H
                    obtain ⟨t116, A330, H⟩ := H
                    replace H : ((ver_fails.f (decide (t116 ≥ 0)) 5).bind fun t117 => (if t117 = 0 then (ver_runs.l0 k2 a0 (a0.size : Int) (wrap64 (x21_2 + 1))) else (some t117))) = some (0 : Int) := H
                    have A33 := Aside0.mk A330
                    clear A330
                    replace H := Option.bind_eq_some_iff.mp H
                    obtain ⟨t117, A340, H⟩ := H
                    replace H : (if t117 = 0 then (ver_runs.l0 k2 a0 (a0.size : Int) (wrap64 (x21_2 + 1))) else (some t117)) = some (0 : Int) := H
                    have A34 := Aside0.mk A340
                    clear A340
                    by_cases c35 : t117 = 0
                    · subst c35
                      have H1 : (ver_runs.l0 k2 a0 (a0.size : Int) (wrap64 (x21_2 + 1))) = some (0 : Int) := by rw [if_pos rfl] at H; exact H
                      clear H
                      have H := H1
                      clear H1
                      have H' := Aside0.mk H
                      clear H
                      have p22 : 0 ≤ (x21_2 : Int) := of_decide_eq_true (by first | (with_reducible assumption) | assumption)
                      have q22 : x21_2 < (a0.size : Int) := of_decide_eq_true (by first | (with_reducible assumption) | assumption)
                      have hx22 := bt_at a0 x21_2
                      replace p22 := eq_true p22
                      replace q22 := eq_true q22
                      go_wp2_with (first | ((with_reducible refine gate_callee (f := 57) rfl ?_); refine goesL_ (some 27) rfl rfl Tryd.func57 (by kernel_rfl) rfl #[.int .u8 (bt a0 x21_2)] rfl (by (try simp only [List.map_toArray, List.map_cons, List.map_nil]); first | done | rfl | (simp only [List.length_drop, List.length_take]; rfl)) ?_; (with_reducible refine (ver_digit.calls (bt a0 x21_2) false _ A23.out).mono ?_); rintro e w' ⟨rfl, ⟨nd, rfl⟩⟩; refine ⟨_, rfl, ?_⟩; have p27 : 0 ≤ (x21_2 : Int) := of_decide_eq_true (by first | (with_reducible assumption) | assumption); have q27 : x21_2 < (a0.size : Int) := of_decide_eq_true (by first | (with_reducible assumption) | assumption); have hx27 := bt_at a0 x21_2; replace p27 := eq_true p27; replace q27 := eq_true q27) | (go_at_call 58; (with_reducible refine (ver_letter.calls (bt a0 x21_2) false _ A28.out).mono ?_); rintro e w' ⟨rfl, ⟨nd, rfl⟩⟩; have p32 : 0 ≤ (x21_2 : Int) := of_decide_eq_true (by first | (with_reducible assumption) | assumption); have q32 : x21_2 < (a0.size : Int) := of_decide_eq_true (by first | (with_reducible assumption) | assumption); have hx32 := bt_at a0 x21_2; replace p32 := eq_true p32; replace q32 := eq_true q32) | (go_at_call 59; (with_reducible refine (strings_IndexByte.calls (⟨#[46, 43, 126]⟩ : ByteArray) (bt a0 x21_2) t116 _ A33.out).mono ?_); rintro e w' ⟨rfl, ⟨nd, rfl⟩⟩) | ((with_reducible refine gate_callee (f := 33) rfl ?_); refine goesL_ (some 41) rfl rfl Tryd.func33 (by kernel_rfl) rfl #[.bool (decide (t116 ≥ 0)), .int .i64 5] rfl (by (try simp only [List.map_toArray, List.map_cons, List.map_nil]); first | done | rfl | (simp only [List.length_drop, List.length_take]; rfl)) ?_; (with_reducible refine (ver_fails.calls (decide (t116 ≥ 0)) 5  _ A34.out).mono ?_); rintro e w' ⟨rfl, ⟨nd, rfl⟩⟩; refine ⟨_, rfl, ?_⟩))
                      go_roundg k2
                      case measure => have := HJ1.out; have := HK2.out; omega
                      case rel => exact ⟨(wrap64 (x21_2 + 1)), (by first | rfl | (simp; done) | (simp [*]; done)), H', ⟨by have := HJ1.out; have := HK2.out; omega⟩, by repeat (first | exact Drawn0.refl _ | apply Drawn0.step)⟩
                    · rw [if_neg c35] at H
                      have Pc35 := Aside0.mk c35
                      clear c35
                      exact absurd (congrArg (fun z_ => z_) (Option.some.inj H)) Pc35.out
              · rw [if_neg c21] at H
                exact absurd H (by simp)
            · rw [if_neg c20] at H
              exact absurd H (by simp)
          · rw [if_neg c19] at H
            have c19b0 : decide (x21_2 < (a0.size : Int)) = false := decide_eq_false c19
            clear c19
            clear H
            go_wp2
            first | go_end0 | ((try simp only [Exit.inBlock, Exit.then]); refine bodyPost_ret (results_none rfl _ _ _) rfl ?_)
            exact ⟨by first | rfl | (simp; done) | (simp [*]; done), by repeat (first | exact Drawn0.refl _ | apply Drawn0.step)⟩
end Go.Proofs.YtpijehmhgjkkoaaDoor.Q
namespace Go.Proofs.YtpijehmhgjkkoaaDoor.Q
open Go.RowKit Go.Proofs.YtpijehmhgjkkoaaDoorW.PrintWords Go.Proofs.YtpijehmhgjkkoaaDoorW.PrintLast Go.Proofs.YtpijehmhgjkkoaaDoorW.PrintMore
attribute [local go_sem] max2_int min2_int max_two min_two max_three min_three max_four min_four   -- for this text's walks alone
set_option linter.unusedVariables false
set_option linter.unusedSimpArgs false
/-! ### ver_runs: its panics -/
set_option maxHeartbeats 8000000 in
set_option maxRecDepth 100000 in
theorem ver_runs.panics (k : Nat) (a0 : ByteArray) (r : Int) (hne : r ≠ 0) (w : World) (h : ver_runs.f k a0 = some r) :
    Calls Tryd.prog 35 #[.string a0] w fun e w' => e = .panicked [{ v := .iface 23 (.int .i64 r), recovered := false }] ∧ Drawn0 w w' := by
  have H : (if a0.toList = ([] : List UInt8) then ((ver_fails.f false 5).bind fun t118 => (if t118 = 0 then (ver_runs.j0 k a0) else (some t118))) else (if 0 < (a0.size : Int) then ((ver_digit.f (bt a0 0)).bind fun t119 => (if t119 = true then (if 0 ≤ (wrap64 ((a0.size : Int) - 1)) then (if (wrap64 ((a0.size : Int) - 1)) < (a0.size : Int) then ((ver_digit.f (bt a0 (wrap64 ((a0.size : Int) - 1)))).bind fun t120 => ((ver_fails.f t120 5).bind fun t121 => (if t121 = 0 then (ver_runs.j0 k a0) else (some t121)))) else (none)) else (none)) else ((ver_fails.f false 5).bind fun t122 => (if t122 = 0 then (ver_runs.j0 k a0) else (some t122))))) else (none))) = some r := h
  clear h
  have HC2 := Aside0.mk H
  clear H
  go_enter Tryd.func35, Tryd.ntmps35
  go_upto_region 0 with (fail)
  go_cut [] (fun wc => ∃ (kq : Nat), Aside0 (ver_runs.j0 kq a0 = some r) ∧ Aside0 (kq ≤ k) ∧ Drawn0 w wc)
  case first =>
    have H := HC2.out
    clear HC2
    by_cases c3 : a0.toList = ([] : List UInt8)
    · rw [if_pos c3] at H
      have c3b0 : (a0.toList == ([] : List UInt8)) = true := beq_iff_eq.mpr c3
      have c3b1 : (a0.toList != ([] : List UInt8)) = false := bne_eq_false_iff_eq.mpr c3
      have c3b2 : a0.toList.isEmpty = true := List.isEmpty_iff.mpr c3
      clear c3
      (first | rw [c3b0] | (simp only [i64_w, i32_w]; rw [c3b0]) | rw [c3b2] | skip)
      replace H := Option.bind_eq_some_iff.mp H
      obtain ⟨t118, A40, H⟩ := H
      replace H : (if t118 = 0 then (ver_runs.j0 k a0) else (some t118)) = some r := H
      have A4 := Aside0.mk A40
      clear A40
      by_cases c5 : t118 = 0
      · subst c5
        have H1 : (ver_runs.j0 k a0) = some r := by rw [if_pos rfl] at H; exact H
        clear H
        have H := H1
        clear H1
        have H' := Aside0.mk H
        clear H
        go_wp2_with (first | ((with_reducible refine gate_callee (f := 33) rfl ?_); refine goesL_ (some 18) rfl rfl Tryd.func33 (by kernel_rfl) rfl #[.bool false, .int .i64 5] rfl (by (try simp only [List.map_toArray, List.map_cons, List.map_nil]); first | done | rfl | (simp only [List.length_drop, List.length_take]; rfl)) ?_; (with_reducible refine (ver_fails.calls false 5  _ A4.out).mono ?_); rintro e w' ⟨rfl, ⟨nd, rfl⟩⟩; refine ⟨_, rfl, ?_⟩))
        go_meet
        case rel => exact ⟨_, H', ⟨by first | omega | exact Nat.le_refl _⟩, by repeat (first | exact Drawn0.refl _ | apply Drawn0.step)⟩
      · rw [if_neg c5] at H
        have Pc5 := Aside0.mk c5
        clear c5
        obtain rfl : t118 = r := congrArg (fun z_ => z_) (Option.some.inj H)
        clear H
        go_wp2_with (first | ((with_reducible refine gate_callee (f := 33) rfl ?_); refine goesP_ rfl Tryd.func33 (by kernel_rfl) rfl #[.bool false, .int .i64 5] rfl (by (try simp only [List.map_toArray, List.map_cons, List.map_nil]); first | done | rfl | (simp only [List.length_drop, List.length_take]; rfl)) ?_; (with_reducible refine (ver_fails.panics false 5 t118 Pc5.out _ A4.out).mono ?_); rintro e w' ⟨rfl, ⟨nd, rfl⟩⟩; refine ⟨_, rfl, ?_⟩))
        first | exact ⟨rfl, rfl, by repeat (first | exact Drawn0.refl _ | apply Drawn0.step)⟩ | exact And.intro rfl (And.intro rfl (by repeat (first | exact Drawn0.refl _ | apply Drawn0.step)))
    · rw [if_neg c3] at H
      have c3b0 : (a0.toList == ([] : List UInt8)) = false := beq_eq_false_iff_ne.mpr c3
      have c3b1 : (a0.toList != ([] : List UInt8)) = true := bne_iff_ne.mpr c3
      have c3b2 : a0.toList.isEmpty = false := Bool.eq_false_iff.mpr (fun h_ => c3 (List.isEmpty_iff.mp h_))
      (first | rw [c3b0] | (simp only [i64_w, i32_w]; rw [c3b0]) | rw [c3b2] | skip)
      by_cases c6 : 0 < (a0.size : Int)
      · rw [if_pos c6] at H
        have c6b0 : decide (0 < (a0.size : Int)) = true := decide_eq_true c6
        have c6b1 : decide (0 < a0.size) = true := decide_eq_true (by omega)
        clear c6
        replace H := Option.bind_eq_some_iff.mp H
        obtain ⟨t119, A80, H⟩ := H
        replace H : (if t119 = true then (if 0 ≤ (wrap64 ((a0.size : Int) - 1)) then (if (wrap64 ((a0.size : Int) - 1)) < (a0.size : Int) then ((ver_digit.f (bt a0 (wrap64 ((a0.size : Int) - 1)))).bind fun t120 => ((ver_fails.f t120 5).bind fun t121 => (if t121 = 0 then (ver_runs.j0 k a0) else (some t121)))) else (none)) else (none)) else ((ver_fails.f false 5).bind fun t122 => (if t122 = 0 then (ver_runs.j0 k a0) else (some t122)))) = some r := H
        have A8 := Aside0.mk A80
        clear A80
        by_cases c9 : t119 = true
        · subst c9
          have H1 : (if 0 ≤ (wrap64 ((a0.size : Int) - 1)) then (if (wrap64 ((a0.size : Int) - 1)) < (a0.size : Int) then ((ver_digit.f (bt a0 (wrap64 ((a0.size : Int) - 1)))).bind fun t120 => ((ver_fails.f t120 5).bind fun t121 => (if t121 = 0 then (ver_runs.j0 k a0) else (some t121)))) else (none)) else (none)) = some r := by rw [if_pos rfl] at H; exact H
          clear H
          have H := H1
          clear H1
          obtain ⟨ji10, hji10⟩ : ∃ j_ : Int, (wrap64 ((a0.size : Int) - 1)) = j_ := ⟨_, rfl⟩
          replace H : (if 0 ≤ (ji10) then (if (ji10) < (a0.size : Int) then ((ver_digit.f (bt a0 (ji10))).bind fun t120 => ((ver_fails.f t120 5).bind fun t121 => (if t121 = 0 then (ver_runs.j0 k a0) else (some t121)))) else (none)) else (none)) = some r := by first | (rw [hji10] at H; exact H) | (simp only [hji10] at H ⊢; exact H)
          (try rw [hji10] at A8)
          have hji10w : (IntKind.i64.wrap ((a0.size : Int) - 1)) = ji10 := (i64_w _).trans hji10
          by_cases c11 : 0 ≤ (ji10)
          · rw [if_pos c11] at H
            have c11b0 : decide (0 ≤ (ji10)) = true := decide_eq_true c11
            clear c11
            by_cases c12 : (ji10) < (a0.size : Int)
            · rw [if_pos c12] at H
              have c12b0 : decide ((ji10) < (a0.size : Int)) = true := decide_eq_true c12
              clear c12
              replace H := Option.bind_eq_some_iff.mp H
              obtain ⟨t120, A140, H⟩ := H
              replace H : ((ver_fails.f t120 5).bind fun t121 => (if t121 = 0 then (ver_runs.j0 k a0) else (some t121))) = some r := H
              have A14 := Aside0.mk A140
              clear A140
              replace H := Option.bind_eq_some_iff.mp H
              obtain ⟨t121, A150, H⟩ := H
              replace H : (if t121 = 0 then (ver_runs.j0 k a0) else (some t121)) = some r := H
              have A15 := Aside0.mk A150
              clear A150
              by_cases c16 : t121 = 0
              · subst c16
                have H1 : (ver_runs.j0 k a0) = some r := by rw [if_pos rfl] at H; exact H
                clear H
                have H := H1
                clear H1
                have H' := Aside0.mk H
                clear H
                have p7 : 0 ≤ (0 : Int) := (by omega)
                have q7 : 0 < a0.size := (by have : (0 : Int) < (a0.size : Int) := of_decide_eq_true (by first | (with_reducible assumption) | assumption); omega)
                have hx7 : ∀ h : 0 < a0.size, ((a0[0]'h).toNat : Int) = bt a0 0 := bt_at a0 0
                clear p7
                have qi7 : (0 < (a0.size : Int)) = True := eq_true (of_decide_eq_true (by first | (with_reducible assumption) | assumption))
                replace q7 := eq_true q7
                go_wp2_with (first | (go_at_call 57; (with_reducible refine (ver_digit.calls (bt a0 0) true _ A8.out).mono ?_); rintro e w' ⟨rfl, ⟨nd, rfl⟩⟩; have p13 : 0 ≤ ((ji10) : Int) := of_decide_eq_true (by first | (with_reducible assumption) | assumption); have q13 : (ji10) < (a0.size : Int) := of_decide_eq_true (by first | (with_reducible assumption) | assumption); have hx13 := bt_at a0 (ji10); replace p13 := eq_true p13; replace q13 := eq_true q13) | (go_at_call 57; (with_reducible refine (ver_digit.calls (bt a0 (ji10)) t120 _ A14.out).mono ?_); rintro e w' ⟨rfl, ⟨nd, rfl⟩⟩) | ((with_reducible refine gate_callee (f := 33) rfl ?_); refine goesL_ (some 18) rfl rfl Tryd.func33 (by kernel_rfl) rfl #[.bool t120, .int .i64 5] rfl (by (try simp only [List.map_toArray, List.map_cons, List.map_nil]); first | done | rfl | (simp only [List.length_drop, List.length_take]; rfl)) ?_; (with_reducible refine (ver_fails.calls t120 5  _ A15.out).mono ?_); rintro e w' ⟨rfl, ⟨nd, rfl⟩⟩; refine ⟨_, rfl, ?_⟩))
                go_meet
                case rel => exact ⟨_, H', ⟨by first | omega | exact Nat.le_refl _⟩, by repeat (first | exact Drawn0.refl _ | apply Drawn0.step)⟩
              · rw [if_neg c16] at H
                have Pc16 := Aside0.mk c16
                clear c16
                obtain rfl : t121 = r := congrArg (fun z_ => z_) (Option.some.inj H)
                clear H
                have p7 : 0 ≤ (0 : Int) := (by omega)
                have q7 : 0 < a0.size := (by have : (0 : Int) < (a0.size : Int) := of_decide_eq_true (by first | (with_reducible assumption) | assumption); omega)
                have hx7 : ∀ h : 0 < a0.size, ((a0[0]'h).toNat : Int) = bt a0 0 := bt_at a0 0
                clear p7
                have qi7 : (0 < (a0.size : Int)) = True := eq_true (of_decide_eq_true (by first | (with_reducible assumption) | assumption))
                replace q7 := eq_true q7
                go_wp2_with (first | (go_at_call 57; (with_reducible refine (ver_digit.calls (bt a0 0) true _ A8.out).mono ?_); rintro e w' ⟨rfl, ⟨nd, rfl⟩⟩; have p13 : 0 ≤ ((ji10) : Int) := of_decide_eq_true (by first | (with_reducible assumption) | assumption); have q13 : (ji10) < (a0.size : Int) := of_decide_eq_true (by first | (with_reducible assumption) | assumption); have hx13 := bt_at a0 (ji10); replace p13 := eq_true p13; replace q13 := eq_true q13) | (go_at_call 57; (with_reducible refine (ver_digit.calls (bt a0 (ji10)) t120 _ A14.out).mono ?_); rintro e w' ⟨rfl, ⟨nd, rfl⟩⟩) | ((with_reducible refine gate_callee (f := 33) rfl ?_); refine goesP_ rfl Tryd.func33 (by kernel_rfl) rfl #[.bool t120, .int .i64 5] rfl (by (try simp only [List.map_toArray, List.map_cons, List.map_nil]); first | done | rfl | (simp only [List.length_drop, List.length_take]; rfl)) ?_; (with_reducible refine (ver_fails.panics t120 5 t121 Pc16.out _ A15.out).mono ?_); rintro e w' ⟨rfl, ⟨nd, rfl⟩⟩; refine ⟨_, rfl, ?_⟩))
                first | exact ⟨rfl, rfl, by repeat (first | exact Drawn0.refl _ | apply Drawn0.step)⟩ | exact And.intro rfl (And.intro rfl (by repeat (first | exact Drawn0.refl _ | apply Drawn0.step)))
            · rw [if_neg c12] at H
              exact absurd H (by simp)
          · rw [if_neg c11] at H
            exact absurd H (by simp)
        · replace c9 := Bool.eq_false_iff.mpr c9
          subst c9
          have H1 : ((ver_fails.f false 5).bind fun t122 => (if t122 = 0 then (ver_runs.j0 k a0) else (some t122))) = some r := by rw [if_neg (show ¬ (false = true) by decide)] at H; exact H
          clear H
          have H := H1
          clear H1
          replace H := Option.bind_eq_some_iff.mp H
          obtain ⟨t122, A170, H⟩ := H
          replace H : (if t122 = 0 then (ver_runs.j0 k a0) else (some t122)) = some r := H
          have A17 := Aside0.mk A170
          clear A170
          by_cases c18 : t122 = 0
          · subst c18
            have H1 : (ver_runs.j0 k a0) = some r := by rw [if_pos rfl] at H; exact H
            clear H
            have H := H1
            clear H1
            have H' := Aside0.mk H
            clear H
            have p7 : 0 ≤ (0 : Int) := (by omega)
            have q7 : 0 < a0.size := (by have : (0 : Int) < (a0.size : Int) := of_decide_eq_true (by first | (with_reducible assumption) | assumption); omega)
            have hx7 : ∀ h : 0 < a0.size, ((a0[0]'h).toNat : Int) = bt a0 0 := bt_at a0 0
            clear p7
            have qi7 : (0 < (a0.size : Int)) = True := eq_true (of_decide_eq_true (by first | (with_reducible assumption) | assumption))
            replace q7 := eq_true q7
            go_wp2_with (first | (go_at_call 57; (with_reducible refine (ver_digit.calls (bt a0 0) false _ A8.out).mono ?_); rintro e w' ⟨rfl, ⟨nd, rfl⟩⟩) | ((with_reducible refine gate_callee (f := 33) rfl ?_); refine goesL_ (some 18) rfl rfl Tryd.func33 (by kernel_rfl) rfl #[.bool false, .int .i64 5] rfl (by (try simp only [List.map_toArray, List.map_cons, List.map_nil]); first | done | rfl | (simp only [List.length_drop, List.length_take]; rfl)) ?_; (with_reducible refine (ver_fails.calls false 5  _ A17.out).mono ?_); rintro e w' ⟨rfl, ⟨nd, rfl⟩⟩; refine ⟨_, rfl, ?_⟩))
            go_meet
            case rel => exact ⟨_, H', ⟨by first | omega | exact Nat.le_refl _⟩, by repeat (first | exact Drawn0.refl _ | apply Drawn0.step)⟩
          · rw [if_neg c18] at H
            have Pc18 := Aside0.mk c18
            clear c18
            obtain rfl : t122 = r := congrArg (fun z_ => z_) (Option.some.inj H)
            clear H
            have p7 : 0 ≤ (0 : Int) := (by omega)
            have q7 : 0 < a0.size := (by have : (0 : Int) < (a0.size : Int) := of_decide_eq_true (by first | (with_reducible assumption) | assumption); omega)
            have hx7 : ∀ h : 0 < a0.size, ((a0[0]'h).toNat : Int) = bt a0 0 := bt_at a0 0
            clear p7
            have qi7 : (0 < (a0.size : Int)) = True := eq_true (of_decide_eq_true (by first | (with_reducible assumption) | assumption))
            replace q7 := eq_true q7
            go_wp2_with (first | (go_at_call 57; (with_reducible refine (ver_digit.calls (bt a0 0) false _ A8.out).mono ?_); rintro e w' ⟨rfl, ⟨nd, rfl⟩⟩) | ((with_reducible refine gate_callee (f := 33) rfl ?_); refine goesP_ rfl Tryd.func33 (by kernel_rfl) rfl #[.bool false, .int .i64 5] rfl (by (try simp only [List.map_toArray, List.map_cons, List.map_nil]); first | done | rfl | (simp only [List.length_drop, List.length_take]; rfl)) ?_; (with_reducible refine (ver_fails.panics false 5 t122 Pc18.out _ A17.out).mono ?_); rintro e w' ⟨rfl, ⟨nd, rfl⟩⟩; refine ⟨_, rfl, ?_⟩))
            first | exact ⟨rfl, rfl, by repeat (first | exact Drawn0.refl _ | apply Drawn0.step)⟩ | exact And.intro rfl (And.intro rfl (by repeat (first | exact Drawn0.refl _ | apply Drawn0.step)))
      · rw [if_neg c6] at H
        exact absurd H (by simp)
  case rest =>
    clear HC2
    try clear c1
    try clear p1
    try clear q1
    try clear hx1
    try clear p2
    try clear c3
    try clear c3b0
    try clear c3b1
    try clear c3b2
    try clear c5
    try clear c6
    try clear c6b0
    try clear c6b1
    try clear p6
    try clear p7
    try clear q7
    try clear hx7
    try clear qi7
    try clear c9
    try clear c11
    try clear c11b0
    try clear c12
    try clear c12b0
    try clear p13
    try clear q13
    try clear hx13
    try clear c16
    try clear c18
    try clear p13
    try clear p7
    try clear q13
    try clear q7
    obtain ⟨kq, HA, HJ1, ⟨mc1, rfl⟩⟩ := hcut
    cases kq with
    | zero => exact absurd HA.out (by simp [ver_runs.j0])
    | succ kj1 =>
      have H := HA.out
      clear HA
      simp only [ver_runs.j0] at H
      have H' := Aside0.mk H
      clear H
      go_wp2
      go_loopg [21] kj1 (fun kq v21 w' => ∃ (x21_2 : Int), v21 = .int .i64 x21_2 ∧ Aside0 (ver_runs.l0 kq a0 (a0.size : Int) x21_2 = some r) ∧ Aside0 (kq ≤ kj1) ∧ Drawn0 w w')
      case atStart => exact ⟨(0), (by first | rfl | (simp; done) | (simp [*]; done)), H', ⟨Nat.le_refl _⟩, by repeat (first | exact Drawn0.refl _ | apply Drawn0.step)⟩
      case round =>
        clear H'
        try clear c1
        try clear p1
        try clear q1
        try clear hx1
        try clear p2
        try clear c3
        try clear c3b0
        try clear c3b1
        try clear c3b2
        try clear c5
        try clear c6
        try clear c6b0
        try clear c6b1
        try clear p6
        try clear p7
        try clear q7
        try clear hx7
        try clear qi7
        try clear c9
        try clear c11
        try clear c11b0
        try clear c12
        try clear c12b0
        try clear p13
        try clear q13
        try clear hx13
        try clear c16
        try clear c18
        try clear p1
        try clear p13
        try clear p2
        try clear p6
        try clear p7
        try clear q1
        try clear q13
        try clear q7
        obtain ⟨x21_2, rfl, HA, HK2, ⟨m2, rfl⟩⟩ := hrel
        cases gk with
        | zero => exact absurd HA.out (by simp [ver_runs.l0])
        | succ k2 =>
          have H := HA.out
          clear HA
          simp only [ver_runs.l0] at H
          by_cases c19 : x21_2 < (a0.size : Int)
          · rw [if_pos c19] at H
            have c19b0 : decide (x21_2 < (a0.size : Int)) = true := decide_eq_true c19
            clear c19
            by_cases c20 : 0 ≤ x21_2
            · rw [if_pos c20] at H
              have c20b0 : decide (0 ≤ x21_2) = true := decide_eq_true c20
              clear c20
              by_cases c21 : x21_2 < (a0.size : Int)
              · rw [if_pos c21] at H
                have c21b0 : decide (x21_2 < (a0.size : Int)) = true := decide_eq_true c21
                clear c21
                replace H := Option.bind_eq_some_iff.mp H
                obtain ⟨t123, A230, H⟩ := H
                replace H : (if t123 = true then ((ver_fails.f true 5).bind fun t124 => (if t124 = 0 then (ver_runs.l0 k2 a0 (a0.size : Int) (wrap64 (x21_2 + 1))) else (some t124))) else ((ver_letter.f (bt a0 x21_2)).bind fun t125 => (if t125 = true then ((ver_fails.f true 5).bind fun t126 => (if t126 = 0 then (ver_runs.l0 k2 a0 (a0.size : Int) (wrap64 (x21_2 + 1))) else (some t126))) else ((strings_IndexByte.f (⟨#[46, 43, 126]⟩ : ByteArray) (bt a0 x21_2)).bind fun t127 => ((ver_fails.f (decide (t127 ≥ 0)) 5).bind fun t128 => (if t128 = 0 then (ver_runs.l0 k2 a0 (a0.size : Int) (wrap64 (x21_2 + 1))) else (some t128))))))) = some r := H
                have A23 := Aside0.mk A230
                clear A230
                by_cases c24 : t123 = true
                · subst c24
                  have H1 : ((ver_fails.f true 5).bind fun t124 => (if t124 = 0 then (ver_runs.l0 k2 a0 (a0.size : Int) (wrap64 (x21_2 + 1))) else (some t124))) = some r := by rw [if_pos rfl] at H; exact H
                  clear H
                  have H := H1
                  clear H1
                  replace H := Option.bind_eq_some_iff.mp H
                  obtain ⟨t124, A250, H⟩ := H
                  replace H : (if t124 = 0 then (ver_runs.l0 k2 a0 (a0.size : Int) (wrap64 (x21_2 + 1))) else (some t124)) = some r := H
                  have A25 := Aside0.mk A250
                  clear A250
                  by_cases c26 : t124 = 0
                  · subst c26
                    have H1 : (ver_runs.l0 k2 a0 (a0.size : Int) (wrap64 (x21_2 + 1))) = some r := by rw [if_pos rfl] at H; exact H
                    clear H
                    have H := H1
                    clear H1
                    have H' := Aside0.mk H
                    clear H
                    have p22 : 0 ≤ (x21_2 : Int) := of_decide_eq_true (by first | (with_reducible assumption) | assumption)
                    have q22 : x21_2 < (a0.size : Int) := of_decide_eq_true (by first | (with_reducible assumption) | assumption)
                    have hx22 := bt_at a0 x21_2
                    replace p22 := eq_true p22
                    replace q22 := eq_true q22
                    go_wp2_with (first | ((with_reducible refine gate_callee (f := 57) rfl ?_); refine goesL_ (some 27) rfl rfl Tryd.func57 (by kernel_rfl) rfl #[.int .u8 (bt a0 x21_2)] rfl (by (try simp only [List.map_toArray, List.map_cons, List.map_nil]); first | done | rfl | (simp only [List.length_drop, List.length_take]; rfl)) ?_; (with_reducible refine (ver_digit.calls (bt a0 x21_2) true _ A23.out).mono ?_); rintro e w' ⟨rfl, ⟨nd, rfl⟩⟩; refine ⟨_, rfl, ?_⟩) | ((with_reducible refine gate_callee (f := 33) rfl ?_); refine goesL_ (some 41) rfl rfl Tryd.func33 (by kernel_rfl) rfl #[.bool true, .int .i64 5] rfl (by (try simp only [List.map_toArray, List.map_cons, List.map_nil]); first | done | rfl | (simp only [List.length_drop, List.length_take]; rfl)) ?_; (with_reducible refine (ver_fails.calls true 5  _ A25.out).mono ?_); rintro e w' ⟨rfl, ⟨nd, rfl⟩⟩; refine ⟨_, rfl, ?_⟩))
                    go_roundg k2
                    case measure => have := HJ1.out; have := HK2.out; omega
                    case rel => exact ⟨(wrap64 (x21_2 + 1)), (by first | rfl | (simp; done) | (simp [*]; done)), H', ⟨by have := HJ1.out; have := HK2.out; omega⟩, by repeat (first | exact Drawn0.refl _ | apply Drawn0.step)⟩
                  · rw [if_neg c26] at H
                    have Pc26 := Aside0.mk c26
                    clear c26
                    obtain rfl : t124 = r := congrArg (fun z_ => z_) (Option.some.inj H)
                    clear H
                    have p22 : 0 ≤ (x21_2 : Int) := of_decide_eq_true (by first | (with_reducible assumption) | assumption)
                    have q22 : x21_2 < (a0.size : Int) := of_decide_eq_true (by first | (with_reducible assumption) | assumption)
                    have hx22 := bt_at a0 x21_2
                    replace p22 := eq_true p22
                    replace q22 := eq_true q22
                    go_wp2_with (first | ((with_reducible refine gate_callee (f := 57) rfl ?_); refine goesL_ (some 27) rfl rfl Tryd.func57 (by kernel_rfl) rfl #[.int .u8 (bt a0 x21_2)] rfl (by (try simp only [List.map_toArray, List.map_cons, List.map_nil]); first | done | rfl | (simp only [List.length_drop, List.length_take]; rfl)) ?_; (with_reducible refine (ver_digit.calls (bt a0 x21_2) true _ A23.out).mono ?_); rintro e w' ⟨rfl, ⟨nd, rfl⟩⟩; refine ⟨_, rfl, ?_⟩) | ((with_reducible refine gate_callee (f := 33) rfl ?_); refine goesP_ rfl Tryd.func33 (by kernel_rfl) rfl #[.bool true, .int .i64 5] rfl (by (try simp only [List.map_toArray, List.map_cons, List.map_nil]); first | done | rfl | (simp only [List.length_drop, List.length_take]; rfl)) ?_; (with_reducible refine (ver_fails.panics true 5 t124 Pc26.out _ A25.out).mono ?_); rintro e w' ⟨rfl, ⟨nd, rfl⟩⟩; refine ⟨_, rfl, ?_⟩))
                    first | exact ⟨rfl, rfl, by repeat (first | exact Drawn0.refl _ | apply Drawn0.step)⟩ | exact And.intro rfl (And.intro rfl (by repeat (first | exact Drawn0.refl _ | apply Drawn0.step)))
                · replace c24 := Bool.eq_false_iff.mpr c24
                  subst c24
                  have H1 : ((ver_letter.f (bt a0 x21_2)).bind fun t125 => (if t125 = true then ((ver_fails.f true 5).bind fun t126 => (if t126 = 0 then (ver_runs.l0 k2 a0 (a0.size : Int) (wrap64 (x21_2 + 1))) else (some t126))) else ((strings_IndexByte.f (⟨#[46, 43, 126]⟩ : ByteArray) (bt a0 x21_2)).bind fun t127 => ((ver_fails.f (decide (t127 ≥ 0)) 5).bind fun t128 => (if t128 = 0 then (ver_runs.l0 k2 a0 (a0.size : Int) (wrap64 (x21_2 + 1))) else (some t128)))))) = some r := by rw [if_neg (show ¬ (false = true) by decide)] at H; exact H
                  clear H
                  have H := H1
                  clear H1
                  replace H := Option.bind_eq_some_iff.mp H
                  obtain ⟨t125, A280, H⟩ := H
                  replace H : (if t125 = true then ((ver_fails.f true 5).bind fun t126 => (if t126 = 0 then (ver_runs.l0 k2 a0 (a0.size : Int) (wrap64 (x21_2 + 1))) else (some t126))) else ((strings_IndexByte.f (⟨#[46, 43, 126]⟩ : ByteArray) (bt a0 x21_2)).bind fun t127 => ((ver_fails.f (decide (t127 ≥ 0)) 5).bind fun t128 => (if t128 = 0 then (ver_runs.l0 k2 a0 (a0.size : Int) (wrap64 (x21_2 + 1))) else (some t128))))) = some r := H
                  have A28 := Aside0.mk A280
                  clear A280
                  by_cases c29 : t125 = true
                  · subst c29
                    have H1 : ((ver_fails.f true 5).bind fun t126 => (if t126 = 0 then (ver_runs.l0 k2 a0 (a0.size : Int) (wrap64 (x21_2 + 1))) else (some t126))) = some r := by rw [if_pos rfl] at H; exact H
                    clear H
                    have H := H1
                    clear H1
                    replace H := Option.bind_eq_some_iff.mp H
                    obtain ⟨t126, A300, H⟩ := H
                    replace H : (if t126 = 0 then (ver_runs.l0 k2 a0 (a0.size : Int) (wrap64 (x21_2 + 1))) else (some t126)) = some r := H
                    have A30 := Aside0.mk A300
                    clear A300
                    by_cases c31 : t126 = 0
                    · subst c31
                      have H1 : (ver_runs.l0 k2 a0 (a0.size : Int) (wrap64 (x21_2 + 1))) = some r := by rw [if_pos rfl] at H; exact H
                      clear H
                      have H := H1
                      clear H1
                      have H' := Aside0.mk H
                      clear H
                      have p22 : 0 ≤ (x21_2 : Int) := of_decide_eq_true (by first | (with_reducible assumption) | assumption)
                      have q22 : x21_2 < (a0.size : Int) := of_decide_eq_true (by first | (with_reducible assumption) | assumption)
                      have hx22 := bt_at a0 x21_2
                      replace p22 := eq_true p22
                      replace q22 := eq_true q22
                      go_wp2_with (first | ((with_reducible refine gate_callee (f := 57) rfl ?_); refine goesL_ (some 27) rfl rfl Tryd.func57 (by kernel_rfl) rfl #[.int .u8 (bt a0 x21_2)] rfl (by (try simp only [List.map_toArray, List.map_cons, List.map_nil]); first | done | rfl | (simp only [List.length_drop, List.length_take]; rfl)) ?_; (with_reducible refine (ver_digit.calls (bt a0 x21_2) false _ A23.out).mono ?_); rintro e w' ⟨rfl, ⟨nd, rfl⟩⟩; refine ⟨_, rfl, ?_⟩; have p27 : 0 ≤ (x21_2 : Int) := of_decide_eq_true (by first | (with_reducible assumption) | assumption); have q27 : x21_2 < (a0.size : Int) := of_decide_eq_true (by first | (with_reducible assumption) | assumption); have hx27 := bt_at a0 x21_2; replace p27 := eq_true p27; replace q27 := eq_true q27) | (go_at_call 58; (with_reducible refine (ver_letter.calls (bt a0 x21_2) true _ A28.out).mono ?_); rintro e w' ⟨rfl, ⟨nd, rfl⟩⟩) | ((with_reducible refine gate_callee (f := 33) rfl ?_); refine goesL_ (some 41) rfl rfl Tryd.func33 (by kernel_rfl) rfl #[.bool true, .int .i64 5] rfl (by (try simp only [List.map_toArray, List.map_cons, List.map_nil]); first | done | rfl | (simp only [List.length_drop, List.length_take]; rfl)) ?_; (with_reducible refine (ver_fails.calls true 5  _ A30.out).mono ?_); rintro e w' ⟨rfl, ⟨nd, rfl⟩⟩; refine ⟨_, rfl, ?_⟩))
                      go_roundg k2
                      case measure => have := HJ1.out; have := HK2.out; omega
                      case rel => exact ⟨(wrap64 (x21_2 + 1)), (by first | rfl | (simp; done) | (simp [*]; done)), H', ⟨by have := HJ1.out; have := HK2.out; omega⟩, by repeat (first | exact Drawn0.refl _ | apply Drawn0.step)⟩
                    · rw [if_neg c31] at H
                      have Pc31 := Aside0.mk c31
                      clear c31
                      obtain rfl : t126 = r := congrArg (fun z_ => z_) (Option.some.inj H)
                      clear H
                      have p22 : 0 ≤ (x21_2 : Int) := of_decide_eq_true (by first | (with_reducible assumption) | assumption)
                      have q22 : x21_2 < (a0.size : Int) := of_decide_eq_true (by first | (with_reducible assumption) | assumption)
                      have hx22 := bt_at a0 x21_2
                      replace p22 := eq_true p22
                      replace q22 := eq_true q22
                      go_wp2_with (first | ((with_reducible refine gate_callee (f := 57) rfl ?_); refine goesL_ (some 27) rfl rfl Tryd.func57 (by kernel_rfl) rfl #[.int .u8 (bt a0 x21_2)] rfl (by (try simp only [List.map_toArray, List.map_cons, List.map_nil]); first | done | rfl | (simp only [List.length_drop, List.length_take]; rfl)) ?_; (with_reducible refine (ver_digit.calls (bt a0 x21_2) false _ A23.out).mono ?_); rintro e w' ⟨rfl, ⟨nd, rfl⟩⟩; refine ⟨_, rfl, ?_⟩; have p27 : 0 ≤ (x21_2 : Int) := of_decide_eq_true (by first | (with_reducible assumption) | assumption); have q27 : x21_2 < (a0.size : Int) := of_decide_eq_true (by first | (with_reducible assumption) | assumption); have hx27 := bt_at a0 x21_2; replace p27 := eq_true p27; replace q27 := eq_true q27) | (go_at_call 58; (with_reducible refine (ver_letter.calls (bt a0 x21_2) true _ A28.out).mono ?_); rintro e w' ⟨rfl, ⟨nd, rfl⟩⟩) | ((with_reducible refine gate_callee (f := 33) rfl ?_); refine goesP_ rfl Tryd.func33 (by kernel_rfl) rfl #[.bool true, .int .i64 5] rfl (by (try simp only [List.map_toArray, List.map_cons, List.map_nil]); first | done | rfl | (simp only [List.length_drop, List.length_take]; rfl)) ?_; (with_reducible refine (ver_fails.panics true 5 t126 Pc31.out _ A30.out).mono ?_); rintro e w' ⟨rfl, ⟨nd, rfl⟩⟩; refine ⟨_, rfl, ?_⟩))
                      first | exact ⟨rfl, rfl, by repeat (first | exact Drawn0.refl _ | apply Drawn0.step)⟩ | exact And.intro rfl (And.intro rfl (by repeat (first | exact Drawn0.refl _ | apply Drawn0.step)))
                  · replace c29 := Bool.eq_false_iff.mpr c29
                    subst c29
                    have H1 : ((strings_IndexByte.f (⟨#[46, 43, 126]⟩ : ByteArray) (bt a0 x21_2)).bind fun t127 => ((ver_fails.f (decide (t127 ≥ 0)) 5).bind fun t128 => (if t128 = 0 then (ver_runs.l0 k2 a0 (a0.size : Int) (wrap64 (x21_2 + 1))) else (some t128)))) = some r := by rw [if_neg (show ¬ (false = true) by decide)] at H; exact H
                    clear H
                    have H := H1
                    clear H1
                    replace H := Option.bind_eq_some_iff.mp H
                    obtain ⟨t127, A330, H⟩ := H
                    replace H : ((ver_fails.f (decide (t127 ≥ 0)) 5).bind fun t128 => (if t128 = 0 then (ver_runs.l0 k2 a0 (a0.size : Int) (wrap64 (x21_2 + 1))) else (some t128))) = some r := H
                    have A33 := Aside0.mk A330
                    clear A330
                    replace H := Option.bind_eq_some_iff.mp H
                    obtain ⟨t128, A340, H⟩ := H
                    replace H : (if t128 = 0 then (ver_runs.l0 k2 a0 (a0.size : Int) (wrap64 (x21_2 + 1))) else (some t128)) = some r := H
                    have A34 := Aside0.mk A340
                    clear A340
                    by_cases c35 : t128 = 0
                    · subst c35
                      have H1 : (ver_runs.l0 k2 a0 (a0.size : Int) (wrap64 (x21_2 + 1))) = some r := by rw [if_pos rfl] at H; exact H
                      clear H
                      have H := H1
                      clear H1
                      have H' := Aside0.mk H
                      clear H
                      have p22 : 0 ≤ (x21_2 : Int) := of_decide_eq_true (by first | (with_reducible assumption) | assumption)
                      have q22 : x21_2 < (a0.size : Int) := of_decide_eq_true (by first | (with_reducible assumption) | assumption)
                      have hx22 := bt_at a0 x21_2
                      replace p22 := eq_true p22
                      replace q22 := eq_true q22
                      go_wp2_with (first | ((with_reducible refine gate_callee (f := 57) rfl ?_); refine goesL_ (some 27) rfl rfl Tryd.func57 (by kernel_rfl) rfl #[.int .u8 (bt a0 x21_2)] rfl (by (try simp only [List.map_toArray, List.map_cons, List.map_nil]); first | done | rfl | (simp only [List.length_drop, List.length_take]; rfl)) ?_; (with_reducible refine (ver_digit.calls (bt a0 x21_2) false _ A23.out).mono ?_); rintro e w' ⟨rfl, ⟨nd, rfl⟩⟩; refine ⟨_, rfl, ?_⟩; have p27 : 0 ≤ (x21_2 : Int) := of_decide_eq_true (by first | (with_reducible assumption) | assumption); have q27 : x21_2 < (a0.size : Int) := of_decide_eq_true (by first | (with_reducible assumption) | assumption); have hx27 := bt_at a0 x21_2; replace p27 := eq_true p27; replace q27 := eq_true q27) | (go_at_call 58; (with_reducible refine (ver_letter.calls (bt a0 x21_2) false _ A28.out).mono ?_); rintro e w' ⟨rfl, ⟨nd, rfl⟩⟩; have p32 : 0 ≤ (x21_2 : Int) := of_decide_eq_true (by first | (with_reducible assumption) | assumption); have q32 : x21_2 < (a0.size : Int) := of_decide_eq_true (by first | (with_reducible assumption) | assumption); have hx32 := bt_at a0 x21_2; replace p32 := eq_true p32; replace q32 := eq_true q32) | (go_at_call 59; (with_reducible refine (strings_IndexByte.calls (⟨#[46, 43, 126]⟩ : ByteArray) (bt a0 x21_2) t127 _ A33.out).mono ?_); rintro e w' ⟨rfl, ⟨nd, rfl⟩⟩) | ((with_reducible refine gate_callee (f := 33) rfl ?_); refine goesL_ (some 41) rfl rfl Tryd.func33 (by kernel_rfl) rfl #[.bool (decide (t127 ≥ 0)), .int .i64 5] rfl (by (try simp only [List.map_toArray, List.map_cons, List.map_nil]); first | done | rfl | (simp only [List.length_drop, List.length_take]; rfl)) ?_; (with_reducible refine (ver_fails.calls (decide (t127 ≥ 0)) 5  _ A34.out).mono ?_); rintro e w' ⟨rfl, ⟨nd, rfl⟩⟩; refine ⟨_, rfl, ?_⟩))
                      go_roundg k2
                      case measure => have := HJ1.out; have := HK2.out; omega
                      case rel => exact ⟨(wrap64 (x21_2 + 1)), (by first | rfl | (simp; done) | (simp [*]; done)), H', ⟨by have := HJ1.out; have := HK2.out; omega⟩, by repeat (first | exact Drawn0.refl _ | apply Drawn0.step)⟩
                    · rw [if_neg c35] at H
                      have Pc35 := Aside0.mk c35
                      clear c35
                      obtain rfl : t128 = r := congrArg (fun z_ => z_) (Option.some.inj H)
                      clear H
                      have p22 : 0 ≤ (x21_2 : Int) := of_decide_eq_true (by first | (with_reducible assumption) | assumption)
                      have q22 : x21_2 < (a0.size : Int) := of_decide_eq_true (by first | (with_reducible assumption) | assumption)
                      have hx22 := bt_at a0 x21_2
                      replace p22 := eq_true p22
                      replace q22 := eq_true q22
                      go_wp2_with (first | ((with_reducible refine gate_callee (f := 57) rfl ?_); refine goesL_ (some 27) rfl rfl Tryd.func57 (by kernel_rfl) rfl #[.int .u8 (bt a0 x21_2)] rfl (by (try simp only [List.map_toArray, List.map_cons, List.map_nil]); first | done | rfl | (simp only [List.length_drop, List.length_take]; rfl)) ?_; (with_reducible refine (ver_digit.calls (bt a0 x21_2) false _ A23.out).mono ?_); rintro e w' ⟨rfl, ⟨nd, rfl⟩⟩; refine ⟨_, rfl, ?_⟩; have p27 : 0 ≤ (x21_2 : Int) := of_decide_eq_true (by first | (with_reducible assumption) | assumption); have q27 : x21_2 < (a0.size : Int) := of_decide_eq_true (by first | (with_reducible assumption) | assumption); have hx27 := bt_at a0 x21_2; replace p27 := eq_true p27; replace q27 := eq_true q27) | (go_at_call 58; (with_reducible refine (ver_letter.calls (bt a0 x21_2) false _ A28.out).mono ?_); rintro e w' ⟨rfl, ⟨nd, rfl⟩⟩; have p32 : 0 ≤ (x21_2 : Int) := of_decide_eq_true (by first | (with_reducible assumption) | assumption); have q32 : x21_2 < (a0.size : Int) := of_decide_eq_true (by first | (with_reducible assumption) | assumption); have hx32 := bt_at a0 x21_2; replace p32 := eq_true p32; replace q32 := eq_true q32) | (go_at_call 59; (with_reducible refine (strings_IndexByte.calls (⟨#[46, 43, 126]⟩ : ByteArray) (bt a0 x21_2) t127 _ A33.out).mono ?_); rintro e w' ⟨rfl, ⟨nd, rfl⟩⟩) | ((with_reducible refine gate_callee (f := 33) rfl ?_); refine goesP_ rfl Tryd.func33 (by kernel_rfl) rfl #[.bool (decide (t127 ≥ 0)), .int .i64 5] rfl (by (try simp only [List.map_toArray, List.map_cons, List.map_nil]); first | done | rfl | (simp only [List.length_drop, List.length_take]; rfl)) ?_; (with_reducible refine (ver_fails.panics (decide (t127 ≥ 0)) 5 t128 Pc35.out _ A34.out).mono ?_); rintro e w' ⟨rfl, ⟨nd, rfl⟩⟩; refine ⟨_, rfl, ?_⟩))
                      first | exact ⟨rfl, rfl, by repeat (first | exact Drawn0.refl _ | apply Drawn0.step)⟩ | exact And.intro rfl (And.intro rfl (by repeat (first | exact Drawn0.refl _ | apply Drawn0.step)))
              · rw [if_neg c21] at H
                exact absurd H (by simp)
            · rw [if_neg c20] at H
              exact absurd H (by simp)
          · rw [if_neg c19] at H
            have c19b0 : decide (x21_2 < (a0.size : Int)) = false := decide_eq_false c19
            clear c19
            exact absurd (congrArg (fun z_ => z_) (Option.some.inj H)).symm hne
end Go.Proofs.YtpijehmhgjkkoaaDoor.Q
namespace Go.Proofs.YtpijehmhgjkkoaaDoor.Q
open Go.RowKit Go.Proofs.YtpijehmhgjkkoaaDoorW.PrintWords Go.Proofs.YtpijehmhgjkkoaaDoorW.PrintLast Go.Proofs.YtpijehmhgjkkoaaDoorW.PrintMore
attribute [local go_sem] max2_int min2_int max_two min_two max_three min_three max_four min_four   -- for this text's walks alone
set_option linter.unusedVariables false
set_option linter.unusedSimpArgs false
/-! ### ver_cut: function 19 -/
def ver_cut.j0 : Nat → ByteArray → ByteArray → ByteArray → ByteArray → Option (ByteArray × ByteArray × ByteArray × Int)
  | 0, _, _, _, _ => none
  | k + 1, x0, x131000, x131001, x131002 => (strings_Cut.f x0 (⟨#[45]⟩ : ByteArray)).bind fun bt138 => (if bt138.2.2 = true then ((ver_runs.f k bt138.1).bind fun t142 => (if t142 = 0 then ((ver_runs.f k bt138.2.1).bind fun t141 => (if t141 = 0 then (some (x131000, bt138.1, bt138.2.1, 0)) else (some ((⟨#[]⟩ : ByteArray), (⟨#[]⟩ : ByteArray), (⟨#[]⟩ : ByteArray), t141)))) else (some ((⟨#[]⟩ : ByteArray), (⟨#[]⟩ : ByteArray), (⟨#[]⟩ : ByteArray), t142)))) else ((ver_runs.f k x0).bind fun t144 => (if t144 = 0 then ((ver_runs.f k x131002).bind fun t143 => (if t143 = 0 then (some (x131000, x0, x131002, 0)) else (some ((⟨#[]⟩ : ByteArray), (⟨#[]⟩ : ByteArray), (⟨#[]⟩ : ByteArray), t143)))) else (some ((⟨#[]⟩ : ByteArray), (⟨#[]⟩ : ByteArray), (⟨#[]⟩ : ByteArray), t144)))))
def ver_cut.f (k : Nat) (a0 : ByteArray) : Option (ByteArray × ByteArray × ByteArray × Int) := (ver_fails.f (decide ((a0.size : Int) ≤ 40)) 4).bind fun t145 => (if t145 = 0 then ((strings_Cut.f a0 (⟨#[58]⟩ : ByteArray)).bind fun bt131 => (if bt131.2.2 = true then (if (bt131.1.size : Int) ≥ 1 then (if (bt131.1.size : Int) ≤ 6 then ((strings_Trim.f bt131.1 (⟨#[48, 49, 50, 51, 52, 53, 54, 55, 56, 57]⟩ : ByteArray)).bind fun t134 => ((ver_fails.f t134.toList.isEmpty 5).bind fun t135 => (if t135 = 0 then (ver_cut.j0 k bt131.2.1 bt131.1 (⟨#[]⟩ : ByteArray) (⟨#[48]⟩ : ByteArray)) else (some ((⟨#[]⟩ : ByteArray), (⟨#[]⟩ : ByteArray), (⟨#[]⟩ : ByteArray), t135))))) else ((ver_fails.f false 5).bind fun t136 => (if t136 = 0 then (ver_cut.j0 k bt131.2.1 bt131.1 (⟨#[]⟩ : ByteArray) (⟨#[48]⟩ : ByteArray)) else (some ((⟨#[]⟩ : ByteArray), (⟨#[]⟩ : ByteArray), (⟨#[]⟩ : ByteArray), t136))))) else ((ver_fails.f false 5).bind fun t137 => (if t137 = 0 then (ver_cut.j0 k bt131.2.1 bt131.1 (⟨#[]⟩ : ByteArray) (⟨#[48]⟩ : ByteArray)) else (some ((⟨#[]⟩ : ByteArray), (⟨#[]⟩ : ByteArray), (⟨#[]⟩ : ByteArray), t137))))) else (ver_cut.j0 k a0 (⟨#[48]⟩ : ByteArray) (⟨#[]⟩ : ByteArray) (⟨#[48]⟩ : ByteArray)))) else (some ((⟨#[]⟩ : ByteArray), (⟨#[]⟩ : ByteArray), (⟨#[]⟩ : ByteArray), t145)))
theorem ver_cut.mono_l : ∀ k, (∀ y0 y1 y2 y3, LeO (ver_cut.j0 k y0 y1 y2 y3) (ver_cut.j0 (k + 1) y0 y1 y2 y3))
  | 0 => fun _ _ _ _ r h => by simp [ver_cut.j0] at h
  | k + 1 => by
    have ih0 := ver_cut.mono_l k
    · intro y0 y1 y2 y3
      unfold ver_cut.j0
      repeat' first
      | (with_reducible exact ih0 _ _ _ _)
      | (with_reducible exact ver_runs.mono _ _)
      | (with_reducible exact LeO.refl _)
      | (with_reducible exact LeO.none _)
      | (with_reducible refine LeO.ite ?_ ?_)
      | (with_reducible refine LeO.bind ?_ (fun _ => ?_))
      | exact ih0 _ _ _ _
      | exact ver_runs.mono _ _
      | exact LeO.none _
      | refine LeO.ite ?_ ?_
      | refine LeO.bind ?_ (fun _ => ?_)
theorem ver_cut.mono : ∀ a0 k, LeO (ver_cut.f k a0) (ver_cut.f (k + 1) a0) := by
  intro a0 k
  have ih0 := ver_cut.mono_l k
  unfold ver_cut.f
  repeat' first
      | (with_reducible exact ih0 _ _ _ _)
      | (with_reducible exact ver_runs.mono _ _)
      | (with_reducible exact LeO.refl _)
      | (with_reducible exact LeO.none _)
      | (with_reducible refine LeO.ite ?_ ?_)
      | (with_reducible refine LeO.bind ?_ (fun _ => ?_))
      | exact ih0 _ _ _ _
      | exact ver_runs.mono _ _
      | exact LeO.none _
      | refine LeO.ite ?_ ?_
      | refine LeO.bind ?_ (fun _ => ?_)
set_option maxHeartbeats 8000000 in
set_option maxRecDepth 100000 in
theorem ver_cut.calls (k : Nat) (a0 : ByteArray) (r1 : ByteArray) (r2 : ByteArray) (r3 : ByteArray) (w : World) (h : ver_cut.f k a0 = some (r1, r2, r3, (0 : Int))) :
    Calls Tryd.prog 19 #[.string a0] w fun e w' => e = .returned (.agg #[.string r1, .string r2, .string r3]) ∧ Below w.heap.size w w' := by
  have hu44 := Tryd.underlying44
  have HB := Aside0.mk (Below.refl w.heap.size w)
  have H : ((ver_fails.f (decide ((a0.size : Int) ≤ 40)) 4).bind fun t145 => (if t145 = 0 then ((strings_Cut.f a0 (⟨#[58]⟩ : ByteArray)).bind fun bt131 => (if bt131.2.2 = true then (if (bt131.1.size : Int) ≥ 1 then (if (bt131.1.size : Int) ≤ 6 then ((strings_Trim.f bt131.1 (⟨#[48, 49, 50, 51, 52, 53, 54, 55, 56, 57]⟩ : ByteArray)).bind fun t134 => ((ver_fails.f t134.toList.isEmpty 5).bind fun t135 => (if t135 = 0 then (ver_cut.j0 k bt131.2.1 bt131.1 (⟨#[]⟩ : ByteArray) (⟨#[48]⟩ : ByteArray)) else (some ((⟨#[]⟩ : ByteArray), (⟨#[]⟩ : ByteArray), (⟨#[]⟩ : ByteArray), t135))))) else ((ver_fails.f false 5).bind fun t136 => (if t136 = 0 then (ver_cut.j0 k bt131.2.1 bt131.1 (⟨#[]⟩ : ByteArray) (⟨#[48]⟩ : ByteArray)) else (some ((⟨#[]⟩ : ByteArray), (⟨#[]⟩ : ByteArray), (⟨#[]⟩ : ByteArray), t136))))) else ((ver_fails.f false 5).bind fun t137 => (if t137 = 0 then (ver_cut.j0 k bt131.2.1 bt131.1 (⟨#[]⟩ : ByteArray) (⟨#[48]⟩ : ByteArray)) else (some ((⟨#[]⟩ : ByteArray), (⟨#[]⟩ : ByteArray), (⟨#[]⟩ : ByteArray), t137))))) else (ver_cut.j0 k a0 (⟨#[48]⟩ : ByteArray) (⟨#[]⟩ : ByteArray) (⟨#[48]⟩ : ByteArray)))) else (some ((⟨#[]⟩ : ByteArray), (⟨#[]⟩ : ByteArray), (⟨#[]⟩ : ByteArray), t145)))) = some (r1, r2, r3, (0 : Int)) := h
  clear h
  replace H := Option.bind_eq_some_iff.mp H
  obtain ⟨t145, A20, H⟩ := H
  replace H : (if t145 = 0 then ((strings_Cut.f a0 (⟨#[58]⟩ : ByteArray)).bind fun bt131 => (if bt131.2.2 = true then (if (bt131.1.size : Int) ≥ 1 then (if (bt131.1.size : Int) ≤ 6 then ((strings_Trim.f bt131.1 (⟨#[48, 49, 50, 51, 52, 53, 54, 55, 56, 57]⟩ : ByteArray)).bind fun t134 => ((ver_fails.f t134.toList.isEmpty 5).bind fun t135 => (if t135 = 0 then (ver_cut.j0 k bt131.2.1 bt131.1 (⟨#[]⟩ : ByteArray) (⟨#[48]⟩ : ByteArray)) else (some ((⟨#[]⟩ : ByteArray), (⟨#[]⟩ : ByteArray), (⟨#[]⟩ : ByteArray), t135))))) else ((ver_fails.f false 5).bind fun t136 => (if t136 = 0 then (ver_cut.j0 k bt131.2.1 bt131.1 (⟨#[]⟩ : ByteArray) (⟨#[48]⟩ : ByteArray)) else (some ((⟨#[]⟩ : ByteArray), (⟨#[]⟩ : ByteArray), (⟨#[]⟩ : ByteArray), t136))))) else ((ver_fails.f false 5).bind fun t137 => (if t137 = 0 then (ver_cut.j0 k bt131.2.1 bt131.1 (⟨#[]⟩ : ByteArray) (⟨#[48]⟩ : ByteArray)) else (some ((⟨#[]⟩ : ByteArray), (⟨#[]⟩ : ByteArray), (⟨#[]⟩ : ByteArray), t137))))) else (ver_cut.j0 k a0 (⟨#[48]⟩ : ByteArray) (⟨#[]⟩ : ByteArray) (⟨#[48]⟩ : ByteArray)))) else (some ((⟨#[]⟩ : ByteArray), (⟨#[]⟩ : ByteArray), (⟨#[]⟩ : ByteArray), t145))) = some (r1, r2, r3, (0 : Int)) := H
  have A2 := Aside0.mk A20
  clear A20
  by_cases c3 : t145 = 0
  · subst c3
    have H1 : ((strings_Cut.f a0 (⟨#[58]⟩ : ByteArray)).bind fun bt131 => (if bt131.2.2 = true then (if (bt131.1.size : Int) ≥ 1 then (if (bt131.1.size : Int) ≤ 6 then ((strings_Trim.f bt131.1 (⟨#[48, 49, 50, 51, 52, 53, 54, 55, 56, 57]⟩ : ByteArray)).bind fun t134 => ((ver_fails.f t134.toList.isEmpty 5).bind fun t135 => (if t135 = 0 then (ver_cut.j0 k bt131.2.1 bt131.1 (⟨#[]⟩ : ByteArray) (⟨#[48]⟩ : ByteArray)) else (some ((⟨#[]⟩ : ByteArray), (⟨#[]⟩ : ByteArray), (⟨#[]⟩ : ByteArray), t135))))) else ((ver_fails.f false 5).bind fun t136 => (if t136 = 0 then (ver_cut.j0 k bt131.2.1 bt131.1 (⟨#[]⟩ : ByteArray) (⟨#[48]⟩ : ByteArray)) else (some ((⟨#[]⟩ : ByteArray), (⟨#[]⟩ : ByteArray), (⟨#[]⟩ : ByteArray), t136))))) else ((ver_fails.f false 5).bind fun t137 => (if t137 = 0 then (ver_cut.j0 k bt131.2.1 bt131.1 (⟨#[]⟩ : ByteArray) (⟨#[48]⟩ : ByteArray)) else (some ((⟨#[]⟩ : ByteArray), (⟨#[]⟩ : ByteArray), (⟨#[]⟩ : ByteArray), t137))))) else (ver_cut.j0 k a0 (⟨#[48]⟩ : ByteArray) (⟨#[]⟩ : ByteArray) (⟨#[48]⟩ : ByteArray)))) = some (r1, r2, r3, (0 : Int)) := by rw [if_pos rfl] at H; exact H
    clear H
    have H := H1
    clear H1
    replace H := Option.bind_eq_some_iff.mp H
    obtain ⟨⟨t131, t132, t133⟩, A40, H⟩ := H
    replace H : (if t133 = true then (if (t131.size : Int) ≥ 1 then (if (t131.size : Int) ≤ 6 then ((strings_Trim.f t131 (⟨#[48, 49, 50, 51, 52, 53, 54, 55, 56, 57]⟩ : ByteArray)).bind fun t134 => ((ver_fails.f t134.toList.isEmpty 5).bind fun t135 => (if t135 = 0 then (ver_cut.j0 k t132 t131 (⟨#[]⟩ : ByteArray) (⟨#[48]⟩ : ByteArray)) else (some ((⟨#[]⟩ : ByteArray), (⟨#[]⟩ : ByteArray), (⟨#[]⟩ : ByteArray), t135))))) else ((ver_fails.f false 5).bind fun t136 => (if t136 = 0 then (ver_cut.j0 k t132 t131 (⟨#[]⟩ : ByteArray) (⟨#[48]⟩ : ByteArray)) else (some ((⟨#[]⟩ : ByteArray), (⟨#[]⟩ : ByteArray), (⟨#[]⟩ : ByteArray), t136))))) else ((ver_fails.f false 5).bind fun t137 => (if t137 = 0 then (ver_cut.j0 k t132 t131 (⟨#[]⟩ : ByteArray) (⟨#[48]⟩ : ByteArray)) else (some ((⟨#[]⟩ : ByteArray), (⟨#[]⟩ : ByteArray), (⟨#[]⟩ : ByteArray), t137))))) else (ver_cut.j0 k a0 (⟨#[48]⟩ : ByteArray) (⟨#[]⟩ : ByteArray) (⟨#[48]⟩ : ByteArray))) = some (r1, r2, r3, (0 : Int)) := H
    have A4 := Aside0.mk A40
    clear A40
    have HC5 := Aside0.mk H
    clear H
    go_enter Tryd.func19, Tryd.ntmps19
    go_upto_if 21 with (first | ((with_reducible refine gate_dst (N := 2) rfl ?_); (try (refine gate_guard (by rfl) ?_; dsimp only)); refine box_event ?hg (N := 2) ?hd (cs := #[.string (⟨#[]⟩ : ByteArray), .string (⟨#[]⟩ : ByteArray), .string (⟨#[]⟩ : ByteArray)]) (t := 44) ?hr ?_; (case hd => rfl); (case hg => rfl); (case hr => first | (go_simp; done) | (go_simp; rfl)); intro gb129 hg w6 hbox hb; have n0_ := Aside0.mk (below_step (by repeat (first | (with_reducible first | exact HB.out | apply below_alloc | apply pw_below_drewN | apply below_drew1) | exact HB.out)) hb); have n1_ := Aside0.mk (hbox); have n2_ := Aside0.mk ((by rw [hg]; exact (below_size (by repeat (first | (with_reducible first | exact HB.out | apply below_alloc | apply pw_below_drewN | apply below_drew1) | exact HB.out))) : w.heap.size ≤ gb129)); have n3_ := Aside0.mk ((by rw [hg]; exact (below_size (by repeat (first | (with_reducible first | exact HB.out | apply below_alloc | apply pw_below_drewN | apply below_drew1) | exact HB.out))) : w.heap.size ≤ gb129)); clear HB; have HB := n0_; have BK129 := n1_; have GW129 := n2_; have GE129 := n3_; clear n0_ n1_ n2_ n3_; clear hb hbox hg) | ((with_reducible refine gate_callee (f := 33) rfl ?_); refine goesL_ (some 13) rfl rfl Tryd.func33 (by kernel_rfl) rfl #[.bool (decide ((a0.size : Int) ≤ 40)), .int .i64 4] rfl (by (try simp only [List.map_toArray, List.map_cons, List.map_nil]); first | done | rfl | (simp only [List.length_drop, List.length_take]; rfl)) ?_; (with_reducible refine (ver_fails.calls (decide ((a0.size : Int) ≤ 40)) 4  _ A2.out).mono ?_); rintro e w' ⟨rfl, ⟨nd, rfl⟩⟩; refine ⟨_, rfl, ?_⟩; (try (rw [drewN_self w6]; generalize hq_ : World.drewN w6 _ = w6; have n0_ : Aside0 (w6.heap[gb129]? = some (.cells #[.string (⟨#[]⟩ : ByteArray), .string (⟨#[]⟩ : ByteArray), .string (⟨#[]⟩ : ByteArray)] 44 (0, 0))) := ⟨by rw [← hq_]; exact (by (with_reducible repeat (first | refine blk_drewN ?_ _ | refine blk_drew ?_ | refine blk_alloc ?_ _)); exact BK129.out)⟩; have n1_ : Aside0 (Below w.heap.size w w6) := ⟨by rw [← hq_]; exact (by repeat (first | (with_reducible first | exact HB.out | apply below_alloc | apply pw_below_drewN | apply below_drew1 | refine below_set ?_ GE129.out) | exact HB.out))⟩; clear BK129 HB hq_; have BK129 := n0_; have HB := n1_; clear n0_ n1_))) | ((with_reducible refine gate_dst (N := 3) rfl ?_); (try (refine gate_guard (by rfl) ?_; dsimp only)); refine box_event ?hg (N := 3) ?hd (cs := #[.string (⟨#[]⟩ : ByteArray), .string (⟨#[]⟩ : ByteArray), .string (⟨#[]⟩ : ByteArray)]) (t := 44) ?hr ?_; (case hd => rfl); (case hg => rfl); (case hr => first | (go_simp; done) | (go_simp; rfl)); intro gb130 hg w7 hbox hb; have n0_ := Aside0.mk (blk_below (g := gb129) (o := .cells #[.string (⟨#[]⟩ : ByteArray), .string (⟨#[]⟩ : ByteArray), .string (⟨#[]⟩ : ByteArray)] 44 (0, 0)) (by (with_reducible repeat (first | refine blk_drewN ?_ _ | refine blk_drew ?_ | refine blk_alloc ?_ _)); exact BK129.out) hb); have n1_ := Aside0.mk (below_step (by repeat (first | (with_reducible first | exact HB.out | apply below_alloc | apply pw_below_drewN | apply below_drew1 | refine below_set ?_ GE129.out) | exact HB.out)) hb); have n2_ := Aside0.mk (hbox); have n3_ := Aside0.mk ((by rw [hg]; exact (below_size (by repeat (first | (with_reducible first | exact HB.out | apply below_alloc | apply pw_below_drewN | apply below_drew1 | refine below_set ?_ GE129.out) | exact HB.out))) : w.heap.size ≤ gb130)); have n4_ := Aside0.mk ((by rw [hg]; exact (below_size (by repeat (first | (with_reducible first | exact HB.out | apply below_alloc | apply pw_below_drewN | apply below_drew1 | refine below_set ?_ GE129.out) | exact HB.out))) : w.heap.size ≤ gb130)); have n5_ := Aside0.mk ((by rw [hg]; exact Nat.ne_of_lt (blk_lt (g := gb129) (o := .cells #[.string (⟨#[]⟩ : ByteArray), .string (⟨#[]⟩ : ByteArray), .string (⟨#[]⟩ : ByteArray)] 44 (0, 0)) (by (with_reducible repeat (first | refine blk_drewN ?_ _ | refine blk_drew ?_ | refine blk_alloc ?_ _)); exact BK129.out)) : gb129 ≠ gb130)); have n6_ := Aside0.mk ((by rw [hg]; exact Nat.ne_of_gt (blk_lt (g := gb129) (o := .cells #[.string (⟨#[]⟩ : ByteArray), .string (⟨#[]⟩ : ByteArray), .string (⟨#[]⟩ : ByteArray)] 44 (0, 0)) (by (with_reducible repeat (first | refine blk_drewN ?_ _ | refine blk_drew ?_ | refine blk_alloc ?_ _)); exact BK129.out)) : gb130 ≠ gb129)); clear BK129; clear HB; have BK129 := n0_; have HB := n1_; have BK130 := n2_; have GW130 := n3_; have GE130 := n4_; have NB129_130 := n5_; have NB130_129 := n6_; clear n0_ n1_ n2_ n3_ n4_ n5_ n6_; clear hb hbox hg; have hnb8 := NB130_129.out; have hnc8 := NB129_130.out; have hcz9_0 : w7.cell? ⟨gb130, 0, none⟩ = some (.string (⟨#[]⟩ : ByteArray)) := (blk_cell BK130.out 0).trans rfl; have hcz9_1 : w7.cell? ⟨gb130, 1, none⟩ = some (.string (⟨#[]⟩ : ByteArray)) := (blk_cell BK130.out 1).trans rfl; have hcz9_2 : w7.cell? ⟨gb130, 2, none⟩ = some (.string (⟨#[]⟩ : ByteArray)) := (blk_cell BK130.out 2).trans rfl; have hfz9_0 := blk_frozen BK130.out 0; have hfz9_1 := blk_frozen BK130.out 1; have hfz9_2 := blk_frozen BK130.out 2) | ((with_reducible refine gate_callee (f := 25) rfl ?_); refine goesL_ (some 17) rfl rfl Tryd.func25 (by kernel_rfl) rfl #[.string a0, .string (⟨#[58]⟩ : ByteArray)] rfl (by (try simp only [List.map_toArray, List.map_cons, List.map_nil]); first | done | rfl | (simp only [List.length_drop, List.length_take]; rfl)) ?_; (with_reducible refine (strings_Cut.calls a0 (⟨#[58]⟩ : ByteArray) t131 t132 t133 _ A4.out).mono ?_); rintro e w' ⟨rfl, ⟨nd, rfl⟩⟩; refine ⟨_, rfl, ?_⟩))
    (try simp only [Act.put, List.setIfInBounds_toArray, List.set_cons_zero, List.set_cons_succ])
    go_cut [0] (fun v0 wc => ∃ (kq : Nat) (x0_4 : ByteArray) (x131000_4 : ByteArray), v0 = .string x0_4 ∧ Aside0 (ver_cut.j0 kq x0_4 x131000_4 (⟨#[]⟩ : ByteArray) (⟨#[48]⟩ : ByteArray) = some (r1, r2, r3, (0 : Int))) ∧ Aside0 (kq ≤ k) ∧ Aside0 (wc.heap[gb129]? = some (.cells #[.string (⟨#[]⟩ : ByteArray), .string (⟨#[]⟩ : ByteArray), .string (⟨#[]⟩ : ByteArray)] 44 (0, 0))) ∧ Aside0 (wc.heap[gb130]? = some (.cells #[.string x131000_4, .string (⟨#[]⟩ : ByteArray), .string (⟨#[48]⟩ : ByteArray)] 44 (0, 0))) ∧ Aside0 (Below w.heap.size w wc))
    case first =>
      have H := HC5.out
      clear HC5
      by_cases c10 : t133 = true
      · subst c10
        have H1 : (if (t131.size : Int) ≥ 1 then (if (t131.size : Int) ≤ 6 then ((strings_Trim.f t131 (⟨#[48, 49, 50, 51, 52, 53, 54, 55, 56, 57]⟩ : ByteArray)).bind fun t134 => ((ver_fails.f t134.toList.isEmpty 5).bind fun t135 => (if t135 = 0 then (ver_cut.j0 k t132 t131 (⟨#[]⟩ : ByteArray) (⟨#[48]⟩ : ByteArray)) else (some ((⟨#[]⟩ : ByteArray), (⟨#[]⟩ : ByteArray), (⟨#[]⟩ : ByteArray), t135))))) else ((ver_fails.f false 5).bind fun t136 => (if t136 = 0 then (ver_cut.j0 k t132 t131 (⟨#[]⟩ : ByteArray) (⟨#[48]⟩ : ByteArray)) else (some ((⟨#[]⟩ : ByteArray), (⟨#[]⟩ : ByteArray), (⟨#[]⟩ : ByteArray), t136))))) else ((ver_fails.f false 5).bind fun t137 => (if t137 = 0 then (ver_cut.j0 k t132 t131 (⟨#[]⟩ : ByteArray) (⟨#[48]⟩ : ByteArray)) else (some ((⟨#[]⟩ : ByteArray), (⟨#[]⟩ : ByteArray), (⟨#[]⟩ : ByteArray), t137))))) = some (r1, r2, r3, (0 : Int)) := by rw [if_pos rfl] at H; exact H
        clear H
        have H := H1
        clear H1
        by_cases c11 : (t131.size : Int) ≥ 1
        · rw [if_pos c11] at H
          have c11b0 : decide (1 ≤ (t131.size : Int)) = true := decide_eq_true c11
          have c11b1 : decide (1 ≤ t131.size) = true := decide_eq_true (by omega)
          clear c11
          (first | rw [c11b0] | (simp only [i64_w, i32_w]; rw [c11b0]) | rw [c11b2] | skip)
          by_cases c12 : (t131.size : Int) ≤ 6
          · rw [if_pos c12] at H
            have c12b0 : decide ((t131.size : Int) ≤ 6) = true := decide_eq_true c12
            have c12b1 : decide (t131.size ≤ 6) = true := decide_eq_true (by omega)
            clear c12
            replace H := Option.bind_eq_some_iff.mp H
            obtain ⟨t134, A130, H⟩ := H
            replace H : ((ver_fails.f t134.toList.isEmpty 5).bind fun t135 => (if t135 = 0 then (ver_cut.j0 k t132 t131 (⟨#[]⟩ : ByteArray) (⟨#[48]⟩ : ByteArray)) else (some ((⟨#[]⟩ : ByteArray), (⟨#[]⟩ : ByteArray), (⟨#[]⟩ : ByteArray), t135)))) = some (r1, r2, r3, (0 : Int)) := H
            have A13 := Aside0.mk A130
            clear A130
            replace H := Option.bind_eq_some_iff.mp H
            obtain ⟨t135, A140, H⟩ := H
            replace H : (if t135 = 0 then (ver_cut.j0 k t132 t131 (⟨#[]⟩ : ByteArray) (⟨#[48]⟩ : ByteArray)) else (some ((⟨#[]⟩ : ByteArray), (⟨#[]⟩ : ByteArray), (⟨#[]⟩ : ByteArray), t135))) = some (r1, r2, r3, (0 : Int)) := H
            have A14 := Aside0.mk A140
            clear A140
            by_cases c15 : t135 = 0
            · subst c15
              have H1 : (ver_cut.j0 k t132 t131 (⟨#[]⟩ : ByteArray) (⟨#[48]⟩ : ByteArray)) = some (r1, r2, r3, (0 : Int)) := by rw [if_pos rfl] at H; exact H
              clear H
              have H := H1
              clear H1
              have H' := Aside0.mk H
              clear H
              go_wp2_with (first | (go_at_call 34; (with_reducible refine (strings_Trim.calls t131 (⟨#[48, 49, 50, 51, 52, 53, 54, 55, 56, 57]⟩ : ByteArray) t134 _ A13.out).mono ?_); rintro e w16 ⟨rfl, hb⟩; have n0_ := Aside0.mk (blk_below (g := gb129) (o := .cells #[.string (⟨#[]⟩ : ByteArray), .string (⟨#[]⟩ : ByteArray), .string (⟨#[]⟩ : ByteArray)] 44 (0, 0)) (by (with_reducible repeat (first | refine blk_drewN ?_ _ | refine blk_drew ?_ | refine blk_alloc ?_ _)); refine blk_far ?_ NB129_130.out _; (with_reducible repeat (first | refine blk_drewN ?_ _ | refine blk_drew ?_ | refine blk_alloc ?_ _)); refine blk_far ?_ NB129_130.out _; (with_reducible repeat (first | refine blk_drewN ?_ _ | refine blk_drew ?_ | refine blk_alloc ?_ _)); refine blk_far ?_ NB129_130.out _; (with_reducible repeat (first | refine blk_drewN ?_ _ | refine blk_drew ?_ | refine blk_alloc ?_ _)); exact BK129.out) hb); have n1_ := Aside0.mk (blk_below (g := gb130) (o := .cells #[.string (⟨#[48]⟩ : ByteArray), .string (⟨#[]⟩ : ByteArray), .string (⟨#[48]⟩ : ByteArray)] 44 (0, 0)) (by (with_reducible repeat (first | refine blk_drewN ?_ _ | refine blk_drew ?_ | refine blk_alloc ?_ _)); refine blk_put (cs := #[.string (⟨#[48]⟩ : ByteArray), .string (⟨#[]⟩ : ByteArray), .string (⟨#[]⟩ : ByteArray)]) ?_ 2 _ rfl; (with_reducible repeat (first | refine blk_drewN ?_ _ | refine blk_drew ?_ | refine blk_alloc ?_ _)); refine blk_put (cs := #[.string (⟨#[48]⟩ : ByteArray), .string (⟨#[]⟩ : ByteArray), .string (⟨#[]⟩ : ByteArray)]) ?_ 1 _ rfl; (with_reducible repeat (first | refine blk_drewN ?_ _ | refine blk_drew ?_ | refine blk_alloc ?_ _)); refine blk_put (cs := #[.string (⟨#[]⟩ : ByteArray), .string (⟨#[]⟩ : ByteArray), .string (⟨#[]⟩ : ByteArray)]) ?_ 0 _ rfl; (with_reducible repeat (first | refine blk_drewN ?_ _ | refine blk_drew ?_ | refine blk_alloc ?_ _)); exact BK130.out) hb); have n2_ := Aside0.mk (below_step (by repeat (first | (with_reducible first | exact HB.out | apply below_alloc | apply pw_below_drewN | apply below_drew1 | refine below_set ?_ GE129.out | refine below_set ?_ GE130.out) | exact HB.out)) hb); clear BK129; clear BK130; clear HB; have BK129 := n0_; have BK130 := n1_; have HB := n2_; clear n0_ n1_ n2_; (try clear hb); (try clear hb2); (try clear hk); (try clear hi)) | ((with_reducible refine gate_callee (f := 33) rfl ?_); refine goesL_ (some 35) rfl rfl Tryd.func33 (by kernel_rfl) rfl #[.bool t134.toList.isEmpty, .int .i64 5] rfl (by (try simp only [List.map_toArray, List.map_cons, List.map_nil]); first | done | rfl | (simp only [List.length_drop, List.length_take]; rfl)) ?_; (with_reducible refine (ver_fails.calls t134.toList.isEmpty 5  _ A14.out).mono ?_); rintro e w' ⟨rfl, ⟨nd, rfl⟩⟩; refine ⟨_, rfl, ?_⟩; (try (rw [drewN_self w16]; generalize hq_ : World.drewN w16 _ = w16; have n0_ : Aside0 (w16.heap[gb129]? = some (.cells #[.string (⟨#[]⟩ : ByteArray), .string (⟨#[]⟩ : ByteArray), .string (⟨#[]⟩ : ByteArray)] 44 (0, 0))) := ⟨by rw [← hq_]; exact (by (with_reducible repeat (first | refine blk_drewN ?_ _ | refine blk_drew ?_ | refine blk_alloc ?_ _)); exact BK129.out)⟩; have n1_ : Aside0 (w16.heap[gb130]? = some (.cells #[.string (⟨#[48]⟩ : ByteArray), .string (⟨#[]⟩ : ByteArray), .string (⟨#[48]⟩ : ByteArray)] 44 (0, 0))) := ⟨by rw [← hq_]; exact (by (with_reducible repeat (first | refine blk_drewN ?_ _ | refine blk_drew ?_ | refine blk_alloc ?_ _)); exact BK130.out)⟩; have n2_ : Aside0 (Below w.heap.size w w16) := ⟨by rw [← hq_]; exact (by repeat (first | (with_reducible first | exact HB.out | apply below_alloc | apply pw_below_drewN | apply below_drew1 | refine below_set ?_ GE129.out | refine below_set ?_ GE130.out) | exact HB.out))⟩; clear BK129 BK130 HB hq_; have BK129 := n0_; have BK130 := n1_; have HB := n2_; clear n0_ n1_ n2_)); have hnb17 := NB130_129.out; have hnc17 := NB129_130.out; have hcz18_0 : w16.cell? ⟨gb130, 0, none⟩ = some (.string (⟨#[48]⟩ : ByteArray)) := (blk_cell BK130.out 0).trans rfl; have hcz18_1 : w16.cell? ⟨gb130, 1, none⟩ = some (.string (⟨#[]⟩ : ByteArray)) := (blk_cell BK130.out 1).trans rfl; have hcz18_2 : w16.cell? ⟨gb130, 2, none⟩ = some (.string (⟨#[48]⟩ : ByteArray)) := (blk_cell BK130.out 2).trans rfl; have hfz18_0 := blk_frozen BK130.out 0; have hfz18_1 := blk_frozen BK130.out 1; have hfz18_2 := blk_frozen BK130.out 2))
              go_meet
              case rel => exact ⟨_, (t132), (t131), (by first | rfl | (simp; done) | (simp [*]; done)), H', ⟨by first | omega | exact Nat.le_refl _⟩, ⟨by (with_reducible repeat (first | refine blk_drewN ?_ _ | refine blk_drew ?_ | refine blk_alloc ?_ _)); refine blk_far ?_ NB129_130.out _; (with_reducible repeat (first | refine blk_drewN ?_ _ | refine blk_drew ?_ | refine blk_alloc ?_ _)); exact BK129.out⟩, ⟨by (with_reducible repeat (first | refine blk_drewN ?_ _ | refine blk_drew ?_ | refine blk_alloc ?_ _)); refine blk_put (cs := #[.string (⟨#[48]⟩ : ByteArray), .string (⟨#[]⟩ : ByteArray), .string (⟨#[48]⟩ : ByteArray)]) ?_ 0 _ rfl; (with_reducible repeat (first | refine blk_drewN ?_ _ | refine blk_drew ?_ | refine blk_alloc ?_ _)); exact BK130.out⟩, ⟨by repeat (first | (with_reducible first | exact HB.out | apply below_alloc | apply pw_below_drewN | apply below_drew1 | refine below_set ?_ GE129.out | refine below_set ?_ GE130.out) | exact HB.out)⟩⟩
            · rw [if_neg c15] at H
              have Pc15 := Aside0.mk c15
              clear c15
              exact absurd (congrArg (fun z_ => z_.2.2.2) (Option.some.inj H)) Pc15.out
          · rw [if_neg c12] at H
            have c12b0 : decide ((t131.size : Int) ≤ 6) = false := decide_eq_false c12
            have c12b1 : decide (t131.size ≤ 6) = false := decide_eq_false (by omega)
            clear c12
            replace H := Option.bind_eq_some_iff.mp H
            obtain ⟨t136, A190, H⟩ := H
            replace H : (if t136 = 0 then (ver_cut.j0 k t132 t131 (⟨#[]⟩ : ByteArray) (⟨#[48]⟩ : ByteArray)) else (some ((⟨#[]⟩ : ByteArray), (⟨#[]⟩ : ByteArray), (⟨#[]⟩ : ByteArray), t136))) = some (r1, r2, r3, (0 : Int)) := H
            have A19 := Aside0.mk A190
            clear A190
            by_cases c20 : t136 = 0
            · subst c20
              have H1 : (ver_cut.j0 k t132 t131 (⟨#[]⟩ : ByteArray) (⟨#[48]⟩ : ByteArray)) = some (r1, r2, r3, (0 : Int)) := by rw [if_pos rfl] at H; exact H
              clear H
              have H := H1
              clear H1
              have H' := Aside0.mk H
              clear H
              go_wp2_with (first | ((with_reducible refine gate_callee (f := 33) rfl ?_); refine goesL_ (some 35) rfl rfl Tryd.func33 (by kernel_rfl) rfl #[.bool false, .int .i64 5] rfl (by (try simp only [List.map_toArray, List.map_cons, List.map_nil]); first | done | rfl | (simp only [List.length_drop, List.length_take]; rfl)) ?_; (with_reducible refine (ver_fails.calls false 5  _ A19.out).mono ?_); rintro e w' ⟨rfl, ⟨nd, rfl⟩⟩; refine ⟨_, rfl, ?_⟩; have hnb21 := NB130_129.out; have hnc21 := NB129_130.out; have hcz22_0 : w7.cell? ⟨gb130, 0, none⟩ = some (.string (⟨#[]⟩ : ByteArray)) := (blk_cell BK130.out 0).trans rfl; have hcz22_1 : w7.cell? ⟨gb130, 1, none⟩ = some (.string (⟨#[]⟩ : ByteArray)) := (blk_cell BK130.out 1).trans rfl; have hcz22_2 : w7.cell? ⟨gb130, 2, none⟩ = some (.string (⟨#[]⟩ : ByteArray)) := (blk_cell BK130.out 2).trans rfl; have hfz22_0 := blk_frozen BK130.out 0; have hfz22_1 := blk_frozen BK130.out 1; have hfz22_2 := blk_frozen BK130.out 2))
              go_meet
              case rel => exact ⟨_, (t132), (t131), (by first | rfl | (simp; done) | (simp [*]; done)), H', ⟨by first | omega | exact Nat.le_refl _⟩, ⟨by (with_reducible repeat (first | refine blk_drewN ?_ _ | refine blk_drew ?_ | refine blk_alloc ?_ _)); refine blk_far ?_ NB129_130.out _; (with_reducible repeat (first | refine blk_drewN ?_ _ | refine blk_drew ?_ | refine blk_alloc ?_ _)); refine blk_far ?_ NB129_130.out _; (with_reducible repeat (first | refine blk_drewN ?_ _ | refine blk_drew ?_ | refine blk_alloc ?_ _)); refine blk_far ?_ NB129_130.out _; (with_reducible repeat (first | refine blk_drewN ?_ _ | refine blk_drew ?_ | refine blk_alloc ?_ _)); refine blk_far ?_ NB129_130.out _; (with_reducible repeat (first | refine blk_drewN ?_ _ | refine blk_drew ?_ | refine blk_alloc ?_ _)); exact BK129.out⟩, ⟨by (with_reducible repeat (first | refine blk_drewN ?_ _ | refine blk_drew ?_ | refine blk_alloc ?_ _)); refine blk_put (cs := #[.string (⟨#[48]⟩ : ByteArray), .string (⟨#[]⟩ : ByteArray), .string (⟨#[48]⟩ : ByteArray)]) ?_ 0 _ rfl; (with_reducible repeat (first | refine blk_drewN ?_ _ | refine blk_drew ?_ | refine blk_alloc ?_ _)); refine blk_put (cs := #[.string (⟨#[48]⟩ : ByteArray), .string (⟨#[]⟩ : ByteArray), .string (⟨#[]⟩ : ByteArray)]) ?_ 2 _ rfl; (with_reducible repeat (first | refine blk_drewN ?_ _ | refine blk_drew ?_ | refine blk_alloc ?_ _)); refine blk_put (cs := #[.string (⟨#[48]⟩ : ByteArray), .string (⟨#[]⟩ : ByteArray), .string (⟨#[]⟩ : ByteArray)]) ?_ 1 _ rfl; (with_reducible repeat (first | refine blk_drewN ?_ _ | refine blk_drew ?_ | refine blk_alloc ?_ _)); refine blk_put (cs := #[.string (⟨#[]⟩ : ByteArray), .string (⟨#[]⟩ : ByteArray), .string (⟨#[]⟩ : ByteArray)]) ?_ 0 _ rfl; (with_reducible repeat (first | refine blk_drewN ?_ _ | refine blk_drew ?_ | refine blk_alloc ?_ _)); exact BK130.out⟩, ⟨by repeat (first | (with_reducible first | exact HB.out | apply below_alloc | apply pw_below_drewN | apply below_drew1 | refine below_set ?_ GE129.out | refine below_set ?_ GE130.out) | exact HB.out)⟩⟩
            · rw [if_neg c20] at H
              have Pc20 := Aside0.mk c20
              clear c20
              exact absurd (congrArg (fun z_ => z_.2.2.2) (Option.some.inj H)) Pc20.out
        · rw [if_neg c11] at H
          have c11b0 : decide (1 ≤ (t131.size : Int)) = false := decide_eq_false c11
          have c11b1 : decide (1 ≤ t131.size) = false := decide_eq_false (by omega)
          clear c11
          (first | rw [c11b0] | (simp only [i64_w, i32_w]; rw [c11b0]) | rw [c11b2] | skip)
          replace H := Option.bind_eq_some_iff.mp H
          obtain ⟨t137, A230, H⟩ := H
          replace H : (if t137 = 0 then (ver_cut.j0 k t132 t131 (⟨#[]⟩ : ByteArray) (⟨#[48]⟩ : ByteArray)) else (some ((⟨#[]⟩ : ByteArray), (⟨#[]⟩ : ByteArray), (⟨#[]⟩ : ByteArray), t137))) = some (r1, r2, r3, (0 : Int)) := H
          have A23 := Aside0.mk A230
          clear A230
          by_cases c24 : t137 = 0
          · subst c24
            have H1 : (ver_cut.j0 k t132 t131 (⟨#[]⟩ : ByteArray) (⟨#[48]⟩ : ByteArray)) = some (r1, r2, r3, (0 : Int)) := by rw [if_pos rfl] at H; exact H
            clear H
            have H := H1
            clear H1
            have H' := Aside0.mk H
            clear H
            go_wp2_with (first | ((with_reducible refine gate_callee (f := 33) rfl ?_); refine goesL_ (some 35) rfl rfl Tryd.func33 (by kernel_rfl) rfl #[.bool false, .int .i64 5] rfl (by (try simp only [List.map_toArray, List.map_cons, List.map_nil]); first | done | rfl | (simp only [List.length_drop, List.length_take]; rfl)) ?_; (with_reducible refine (ver_fails.calls false 5  _ A23.out).mono ?_); rintro e w' ⟨rfl, ⟨nd, rfl⟩⟩; refine ⟨_, rfl, ?_⟩; have hnb25 := NB130_129.out; have hnc25 := NB129_130.out; have hcz26_0 : w7.cell? ⟨gb130, 0, none⟩ = some (.string (⟨#[]⟩ : ByteArray)) := (blk_cell BK130.out 0).trans rfl; have hcz26_1 : w7.cell? ⟨gb130, 1, none⟩ = some (.string (⟨#[]⟩ : ByteArray)) := (blk_cell BK130.out 1).trans rfl; have hcz26_2 : w7.cell? ⟨gb130, 2, none⟩ = some (.string (⟨#[]⟩ : ByteArray)) := (blk_cell BK130.out 2).trans rfl; have hfz26_0 := blk_frozen BK130.out 0; have hfz26_1 := blk_frozen BK130.out 1; have hfz26_2 := blk_frozen BK130.out 2))
            go_meet
            case rel => exact ⟨_, (t132), (t131), (by first | rfl | (simp; done) | (simp [*]; done)), H', ⟨by first | omega | exact Nat.le_refl _⟩, ⟨by (with_reducible repeat (first | refine blk_drewN ?_ _ | refine blk_drew ?_ | refine blk_alloc ?_ _)); refine blk_far ?_ NB129_130.out _; (with_reducible repeat (first | refine blk_drewN ?_ _ | refine blk_drew ?_ | refine blk_alloc ?_ _)); refine blk_far ?_ NB129_130.out _; (with_reducible repeat (first | refine blk_drewN ?_ _ | refine blk_drew ?_ | refine blk_alloc ?_ _)); refine blk_far ?_ NB129_130.out _; (with_reducible repeat (first | refine blk_drewN ?_ _ | refine blk_drew ?_ | refine blk_alloc ?_ _)); refine blk_far ?_ NB129_130.out _; (with_reducible repeat (first | refine blk_drewN ?_ _ | refine blk_drew ?_ | refine blk_alloc ?_ _)); exact BK129.out⟩, ⟨by (with_reducible repeat (first | refine blk_drewN ?_ _ | refine blk_drew ?_ | refine blk_alloc ?_ _)); refine blk_put (cs := #[.string (⟨#[48]⟩ : ByteArray), .string (⟨#[]⟩ : ByteArray), .string (⟨#[48]⟩ : ByteArray)]) ?_ 0 _ rfl; (with_reducible repeat (first | refine blk_drewN ?_ _ | refine blk_drew ?_ | refine blk_alloc ?_ _)); refine blk_put (cs := #[.string (⟨#[48]⟩ : ByteArray), .string (⟨#[]⟩ : ByteArray), .string (⟨#[]⟩ : ByteArray)]) ?_ 2 _ rfl; (with_reducible repeat (first | refine blk_drewN ?_ _ | refine blk_drew ?_ | refine blk_alloc ?_ _)); refine blk_put (cs := #[.string (⟨#[48]⟩ : ByteArray), .string (⟨#[]⟩ : ByteArray), .string (⟨#[]⟩ : ByteArray)]) ?_ 1 _ rfl; (with_reducible repeat (first | refine blk_drewN ?_ _ | refine blk_drew ?_ | refine blk_alloc ?_ _)); refine blk_put (cs := #[.string (⟨#[]⟩ : ByteArray), .string (⟨#[]⟩ : ByteArray), .string (⟨#[]⟩ : ByteArray)]) ?_ 0 _ rfl; (with_reducible repeat (first | refine blk_drewN ?_ _ | refine blk_drew ?_ | refine blk_alloc ?_ _)); exact BK130.out⟩, ⟨by repeat (first | (with_reducible first | exact HB.out | apply below_alloc | apply pw_below_drewN | apply below_drew1 | refine below_set ?_ GE129.out | refine below_set ?_ GE130.out) | exact HB.out)⟩⟩
          · rw [if_neg c24] at H
            have Pc24 := Aside0.mk c24
            clear c24
            exact absurd (congrArg (fun z_ => z_.2.2.2) (Option.some.inj H)) Pc24.out
      · replace c10 := Bool.eq_false_iff.mpr c10
        subst c10
        have H1 : (ver_cut.j0 k a0 (⟨#[48]⟩ : ByteArray) (⟨#[]⟩ : ByteArray) (⟨#[48]⟩ : ByteArray)) = some (r1, r2, r3, (0 : Int)) := by rw [if_neg (show ¬ (false = true) by decide)] at H; exact H
        clear H
        have H := H1
        clear H1
        have H' := Aside0.mk H
        clear H
        go_wp2
        go_meet
        case rel => exact ⟨_, (a0), ((⟨#[48]⟩ : ByteArray)), (by first | rfl | (simp; done) | (simp [*]; done)), H', ⟨by first | omega | exact Nat.le_refl _⟩, ⟨by (with_reducible repeat (first | refine blk_drewN ?_ _ | refine blk_drew ?_ | refine blk_alloc ?_ _)); refine blk_far ?_ NB129_130.out _; (with_reducible repeat (first | refine blk_drewN ?_ _ | refine blk_drew ?_ | refine blk_alloc ?_ _)); refine blk_far ?_ NB129_130.out _; (with_reducible repeat (first | refine blk_drewN ?_ _ | refine blk_drew ?_ | refine blk_alloc ?_ _)); refine blk_far ?_ NB129_130.out _; (with_reducible repeat (first | refine blk_drewN ?_ _ | refine blk_drew ?_ | refine blk_alloc ?_ _)); exact BK129.out⟩, ⟨by (with_reducible repeat (first | refine blk_drewN ?_ _ | refine blk_drew ?_ | refine blk_alloc ?_ _)); refine blk_put (cs := #[.string (⟨#[48]⟩ : ByteArray), .string (⟨#[]⟩ : ByteArray), .string (⟨#[]⟩ : ByteArray)]) ?_ 2 _ rfl; (with_reducible repeat (first | refine blk_drewN ?_ _ | refine blk_drew ?_ | refine blk_alloc ?_ _)); refine blk_put (cs := #[.string (⟨#[48]⟩ : ByteArray), .string (⟨#[]⟩ : ByteArray), .string (⟨#[]⟩ : ByteArray)]) ?_ 1 _ rfl; (with_reducible repeat (first | refine blk_drewN ?_ _ | refine blk_drew ?_ | refine blk_alloc ?_ _)); refine blk_put (cs := #[.string (⟨#[]⟩ : ByteArray), .string (⟨#[]⟩ : ByteArray), .string (⟨#[]⟩ : ByteArray)]) ?_ 0 _ rfl; (with_reducible repeat (first | refine blk_drewN ?_ _ | refine blk_drew ?_ | refine blk_alloc ?_ _)); exact BK130.out⟩, ⟨by repeat (first | (with_reducible first | exact HB.out | apply below_alloc | apply pw_below_drewN | apply below_drew1 | refine below_set ?_ GE129.out | refine below_set ?_ GE130.out) | exact HB.out)⟩⟩
    case rest =>
      clear HC5
      try clear c1
      try clear c2
      try clear p2
      try clear c3
      try clear c8
      try clear c10
      try clear c11
      try clear c11b0
      try clear c11b1
      try clear c11b2
      try clear c12
      try clear c12b0
      try clear c12b1
      try clear c15
      try clear c17
      try clear c19
      try clear c20
      try clear c21
      try clear c24
      try clear c25
      try clear hcz18_0
      try clear hcz18_1
      try clear hcz18_2
      try clear hcz22_0
      try clear hcz22_1
      try clear hcz22_2
      try clear hcz26_0
      try clear hcz26_1
      try clear hcz26_2
      try clear hcz9_0
      try clear hcz9_1
      try clear hcz9_2
      try clear hfz18_0
      try clear hfz18_1
      try clear hfz18_2
      try clear hfz22_0
      try clear hfz22_1
      try clear hfz22_2
      try clear hfz26_0
      try clear hfz26_1
      try clear hfz26_2
      try clear hfz9_0
      try clear hfz9_1
      try clear hfz9_2
      obtain ⟨kq, x0_4, x131000_4, rfl, HA, HJ4, BK129, BK130, HB⟩ := hcut
      cases kq with
      | zero => exact absurd HA.out (by simp [ver_cut.j0])
      | succ kj4 =>
        have H := HA.out
        clear HA
        simp only [ver_cut.j0] at H
        replace H := Option.bind_eq_some_iff.mp H
        obtain ⟨⟨t138, t139, t140⟩, A270, H⟩ := H
        replace H : (if t140 = true then ((ver_runs.f kj4 t138).bind fun t142 => (if t142 = 0 then ((ver_runs.f kj4 t139).bind fun t141 => (if t141 = 0 then (some (x131000_4, t138, t139, 0)) else (some ((⟨#[]⟩ : ByteArray), (⟨#[]⟩ : ByteArray), (⟨#[]⟩ : ByteArray), t141)))) else (some ((⟨#[]⟩ : ByteArray), (⟨#[]⟩ : ByteArray), (⟨#[]⟩ : ByteArray), t142)))) else ((ver_runs.f kj4 x0_4).bind fun t144 => (if t144 = 0 then ((ver_runs.f kj4 (⟨#[48]⟩ : ByteArray)).bind fun t143 => (if t143 = 0 then (some (x131000_4, x0_4, (⟨#[48]⟩ : ByteArray), 0)) else (some ((⟨#[]⟩ : ByteArray), (⟨#[]⟩ : ByteArray), (⟨#[]⟩ : ByteArray), t143)))) else (some ((⟨#[]⟩ : ByteArray), (⟨#[]⟩ : ByteArray), (⟨#[]⟩ : ByteArray), t144))))) = some (r1, r2, r3, (0 : Int)) := H
        have A27 := Aside0.mk A270
        clear A270
        by_cases c28 : t140 = true
        · subst c28
          have H1 : ((ver_runs.f kj4 t138).bind fun t142 => (if t142 = 0 then ((ver_runs.f kj4 t139).bind fun t141 => (if t141 = 0 then (some (x131000_4, t138, t139, 0)) else (some ((⟨#[]⟩ : ByteArray), (⟨#[]⟩ : ByteArray), (⟨#[]⟩ : ByteArray), t141)))) else (some ((⟨#[]⟩ : ByteArray), (⟨#[]⟩ : ByteArray), (⟨#[]⟩ : ByteArray), t142)))) = some (r1, r2, r3, (0 : Int)) := by rw [if_pos rfl] at H; exact H
          clear H
          have H := H1
          clear H1
          replace H := Option.bind_eq_some_iff.mp H
          obtain ⟨t142, A290, H⟩ := H
          replace H : (if t142 = 0 then ((ver_runs.f kj4 t139).bind fun t141 => (if t141 = 0 then (some (x131000_4, t138, t139, 0)) else (some ((⟨#[]⟩ : ByteArray), (⟨#[]⟩ : ByteArray), (⟨#[]⟩ : ByteArray), t141)))) else (some ((⟨#[]⟩ : ByteArray), (⟨#[]⟩ : ByteArray), (⟨#[]⟩ : ByteArray), t142))) = some (r1, r2, r3, (0 : Int)) := H
          have A29 := Aside0.mk A290
          clear A290
          by_cases c30 : t142 = 0
          · subst c30
            have H1 : ((ver_runs.f kj4 t139).bind fun t141 => (if t141 = 0 then (some (x131000_4, t138, t139, 0)) else (some ((⟨#[]⟩ : ByteArray), (⟨#[]⟩ : ByteArray), (⟨#[]⟩ : ByteArray), t141)))) = some (r1, r2, r3, (0 : Int)) := by rw [if_pos rfl] at H; exact H
            clear H
            have H := H1
            clear H1
            replace H := Option.bind_eq_some_iff.mp H
            obtain ⟨t141, A310, H⟩ := H
            replace H : (if t141 = 0 then (some (x131000_4, t138, t139, 0)) else (some ((⟨#[]⟩ : ByteArray), (⟨#[]⟩ : ByteArray), (⟨#[]⟩ : ByteArray), t141))) = some (r1, r2, r3, (0 : Int)) := H
            have A31 := Aside0.mk A310
            clear A310
            by_cases c32 : t141 = 0
            · subst c32
              have H1 : (some (x131000_4, t138, t139, 0)) = some (r1, r2, r3, (0 : Int)) := by rw [if_pos rfl] at H; exact H
              clear H
              have H := H1
              clear H1
              obtain rfl : x131000_4 = r1 := congrArg (fun z_ => z_.1) (Option.some.inj H)
              obtain rfl : t138 = r2 := congrArg (fun z_ => z_.2.1) (Option.some.inj H)
              obtain rfl : t139 = r3 := congrArg (fun z_ => z_.2.2.1) (Option.some.inj H)
              clear H
              go_wp2_with (first | ((with_reducible refine gate_callee (f := 25) rfl ?_); refine goesL_ (some 41) rfl rfl Tryd.func25 (by kernel_rfl) rfl #[.string x0_4, .string (⟨#[45]⟩ : ByteArray)] rfl (by (try simp only [List.map_toArray, List.map_cons, List.map_nil]); first | done | rfl | (simp only [List.length_drop, List.length_take]; rfl)) ?_; (with_reducible refine (strings_Cut.calls x0_4 (⟨#[45]⟩ : ByteArray) t138 t139 true _ A27.out).mono ?_); rintro e w' ⟨rfl, ⟨nd, rfl⟩⟩; refine ⟨_, rfl, ?_⟩; (try (rw [drewN_self wc]; generalize hq_ : World.drewN wc _ = wc; have n0_ : Aside0 (wc.heap[gb129]? = some (.cells #[.string (⟨#[]⟩ : ByteArray), .string (⟨#[]⟩ : ByteArray), .string (⟨#[]⟩ : ByteArray)] 44 (0, 0))) := ⟨by rw [← hq_]; exact (by (with_reducible repeat (first | refine blk_drewN ?_ _ | refine blk_drew ?_ | refine blk_alloc ?_ _)); exact BK129.out)⟩; have n1_ : Aside0 (wc.heap[gb130]? = some (.cells #[.string x131000_4, .string (⟨#[]⟩ : ByteArray), .string (⟨#[48]⟩ : ByteArray)] 44 (0, 0))) := ⟨by rw [← hq_]; exact (by (with_reducible repeat (first | refine blk_drewN ?_ _ | refine blk_drew ?_ | refine blk_alloc ?_ _)); exact BK130.out)⟩; have n2_ : Aside0 (Below w.heap.size w wc) := ⟨by rw [← hq_]; exact (by repeat (first | (with_reducible first | exact HB.out | apply below_alloc | apply pw_below_drewN | apply below_drew1 | refine below_set ?_ GE129.out | refine below_set ?_ GE130.out) | exact HB.out))⟩; clear BK129 BK130 HB hq_; have BK129 := n0_; have BK130 := n1_; have HB := n2_; clear n0_ n1_ n2_)); have hnb33 := NB130_129.out; have hnc33 := NB129_130.out; have hcz34_0 : wc.cell? ⟨gb130, 0, none⟩ = some (.string x131000_4) := (blk_cell BK130.out 0).trans rfl; have hcz34_1 : wc.cell? ⟨gb130, 1, none⟩ = some (.string (⟨#[]⟩ : ByteArray)) := (blk_cell BK130.out 1).trans rfl; have hcz34_2 : wc.cell? ⟨gb130, 2, none⟩ = some (.string (⟨#[48]⟩ : ByteArray)) := (blk_cell BK130.out 2).trans rfl; have hfz34_0 := blk_frozen BK130.out 0; have hfz34_1 := blk_frozen BK130.out 1; have hfz34_2 := blk_frozen BK130.out 2) | ((with_reducible refine gate_callee (f := 35) rfl ?_); refine goesL_ (some 53) rfl rfl Tryd.func35 (by kernel_rfl) rfl #[.string t138] rfl (by (try simp only [List.map_toArray, List.map_cons, List.map_nil]); first | done | rfl | (simp only [List.length_drop, List.length_take]; rfl)) ?_; (with_reducible refine (ver_runs.calls kj4 t138  _ A29.out).mono ?_); rintro e w' ⟨rfl, ⟨nd, rfl⟩⟩; refine ⟨_, rfl, ?_⟩) | ((with_reducible refine gate_callee (f := 35) rfl ?_); refine goesL_ (some 56) rfl rfl Tryd.func35 (by kernel_rfl) rfl #[.string t139] rfl (by (try simp only [List.map_toArray, List.map_cons, List.map_nil]); first | done | rfl | (simp only [List.length_drop, List.length_take]; rfl)) ?_; (with_reducible refine (ver_runs.calls kj4 t139  _ A31.out).mono ?_); rintro e w' ⟨rfl, ⟨nd, rfl⟩⟩; refine ⟨_, rfl, ?_⟩; have hcz35_0 : wc.cell? ⟨gb129, 0, none⟩ = some (.string (⟨#[]⟩ : ByteArray)) := (blk_cell BK129.out 0).trans rfl; have hcz35_1 : wc.cell? ⟨gb129, 1, none⟩ = some (.string (⟨#[]⟩ : ByteArray)) := (blk_cell BK129.out 1).trans rfl; have hcz35_2 : wc.cell? ⟨gb129, 2, none⟩ = some (.string (⟨#[]⟩ : ByteArray)) := (blk_cell BK129.out 2).trans rfl; have hfz35_0 := blk_frozen BK129.out 0; have hfz35_1 := blk_frozen BK129.out 1; have hfz35_2 := blk_frozen BK129.out 2))
              refine bodyPost_ret (results_cell_row rfl _ _ gb129 44 #[.string x131000_4, .string t138, .string t139] (0, 0) _ rfl (by (with_reducible repeat (first | refine blk_drewN ?_ _ | refine blk_drew ?_ | refine blk_alloc ?_ _)); refine blk_put (cs := #[.string x131000_4, .string t138, .string (⟨#[]⟩ : ByteArray)]) ?_ 2 _ rfl; (with_reducible repeat (first | refine blk_drewN ?_ _ | refine blk_drew ?_ | refine blk_alloc ?_ _)); refine blk_put (cs := #[.string x131000_4, .string (⟨#[]⟩ : ByteArray), .string (⟨#[]⟩ : ByteArray)]) ?_ 1 _ rfl; (with_reducible repeat (first | refine blk_drewN ?_ _ | refine blk_drew ?_ | refine blk_alloc ?_ _)); refine blk_put (cs := #[.string (⟨#[]⟩ : ByteArray), .string (⟨#[]⟩ : ByteArray), .string (⟨#[]⟩ : ByteArray)]) ?_ 0 _ rfl; (with_reducible repeat (first | refine blk_drewN ?_ _ | refine blk_drew ?_ | refine blk_alloc ?_ _)); refine blk_far ?_ NB129_130.out _; (with_reducible repeat (first | refine blk_drewN ?_ _ | refine blk_drew ?_ | refine blk_alloc ?_ _)); refine blk_far ?_ NB129_130.out _; (with_reducible repeat (first | refine blk_drewN ?_ _ | refine blk_drew ?_ | refine blk_alloc ?_ _)); exact BK129.out) Tryd.underlying44 rfl (by kernel_rfl)) rfl ?_
              exact ⟨by first | rfl | (simp [errW_none, errW_some] <;> rfl) | (simp [*, errW_none, errW_some] <;> rfl), by repeat (first | (with_reducible first | exact HB.out | apply below_alloc | apply pw_below_drewN | apply below_drew1 | refine below_set ?_ GE129.out | refine below_set ?_ GE130.out) | exact HB.out)⟩
            · rw [if_neg c32] at H
              have Pc32 := Aside0.mk c32
              clear c32
              exact absurd (congrArg (fun z_ => z_.2.2.2) (Option.some.inj H)) Pc32.out
          · rw [if_neg c30] at H
            have Pc30 := Aside0.mk c30
            clear c30
            exact absurd (congrArg (fun z_ => z_.2.2.2) (Option.some.inj H)) Pc30.out
        · replace c28 := Bool.eq_false_iff.mpr c28
          subst c28
          have H1 : ((ver_runs.f kj4 x0_4).bind fun t144 => (if t144 = 0 then ((ver_runs.f kj4 (⟨#[48]⟩ : ByteArray)).bind fun t143 => (if t143 = 0 then (some (x131000_4, x0_4, (⟨#[48]⟩ : ByteArray), 0)) else (some ((⟨#[]⟩ : ByteArray), (⟨#[]⟩ : ByteArray), (⟨#[]⟩ : ByteArray), t143)))) else (some ((⟨#[]⟩ : ByteArray), (⟨#[]⟩ : ByteArray), (⟨#[]⟩ : ByteArray), t144)))) = some (r1, r2, r3, (0 : Int)) := by rw [if_neg (show ¬ (false = true) by decide)] at H; exact H
          clear H
          have H := H1
          clear H1
          replace H := Option.bind_eq_some_iff.mp H
          obtain ⟨t144, A360, H⟩ := H
          replace H : (if t144 = 0 then ((ver_runs.f kj4 (⟨#[48]⟩ : ByteArray)).bind fun t143 => (if t143 = 0 then (some (x131000_4, x0_4, (⟨#[48]⟩ : ByteArray), 0)) else (some ((⟨#[]⟩ : ByteArray), (⟨#[]⟩ : ByteArray), (⟨#[]⟩ : ByteArray), t143)))) else (some ((⟨#[]⟩ : ByteArray), (⟨#[]⟩ : ByteArray), (⟨#[]⟩ : ByteArray), t144))) = some (r1, r2, r3, (0 : Int)) := H
          have A36 := Aside0.mk A360
          clear A360
          by_cases c37 : t144 = 0
          · subst c37
            have H1 : ((ver_runs.f kj4 (⟨#[48]⟩ : ByteArray)).bind fun t143 => (if t143 = 0 then (some (x131000_4, x0_4, (⟨#[48]⟩ : ByteArray), 0)) else (some ((⟨#[]⟩ : ByteArray), (⟨#[]⟩ : ByteArray), (⟨#[]⟩ : ByteArray), t143)))) = some (r1, r2, r3, (0 : Int)) := by rw [if_pos rfl] at H; exact H
            clear H
            have H := H1
            clear H1
            replace H := Option.bind_eq_some_iff.mp H
            obtain ⟨t143, A380, H⟩ := H
            replace H : (if t143 = 0 then (some (x131000_4, x0_4, (⟨#[48]⟩ : ByteArray), 0)) else (some ((⟨#[]⟩ : ByteArray), (⟨#[]⟩ : ByteArray), (⟨#[]⟩ : ByteArray), t143))) = some (r1, r2, r3, (0 : Int)) := H
            have A38 := Aside0.mk A380
            clear A380
            by_cases c39 : t143 = 0
            · subst c39
              have H1 : (some (x131000_4, x0_4, (⟨#[48]⟩ : ByteArray), 0)) = some (r1, r2, r3, (0 : Int)) := by rw [if_pos rfl] at H; exact H
              clear H
              have H := H1
              clear H1
              obtain rfl : x131000_4 = r1 := congrArg (fun z_ => z_.1) (Option.some.inj H)
              obtain rfl : x0_4 = r2 := congrArg (fun z_ => z_.2.1) (Option.some.inj H)
              obtain rfl : (⟨#[48]⟩ : ByteArray) = r3 := congrArg (fun z_ => z_.2.2.1) (Option.some.inj H)
              clear H
              go_wp2_with (first | ((with_reducible refine gate_callee (f := 25) rfl ?_); refine goesL_ (some 41) rfl rfl Tryd.func25 (by kernel_rfl) rfl #[.string x0_4, .string (⟨#[45]⟩ : ByteArray)] rfl (by (try simp only [List.map_toArray, List.map_cons, List.map_nil]); first | done | rfl | (simp only [List.length_drop, List.length_take]; rfl)) ?_; (with_reducible refine (strings_Cut.calls x0_4 (⟨#[45]⟩ : ByteArray) t138 t139 false _ A27.out).mono ?_); rintro e w' ⟨rfl, ⟨nd, rfl⟩⟩; refine ⟨_, rfl, ?_⟩; (try (rw [drewN_self wc]; generalize hq_ : World.drewN wc _ = wc; have n0_ : Aside0 (wc.heap[gb129]? = some (.cells #[.string (⟨#[]⟩ : ByteArray), .string (⟨#[]⟩ : ByteArray), .string (⟨#[]⟩ : ByteArray)] 44 (0, 0))) := ⟨by rw [← hq_]; exact (by (with_reducible repeat (first | refine blk_drewN ?_ _ | refine blk_drew ?_ | refine blk_alloc ?_ _)); exact BK129.out)⟩; have n1_ : Aside0 (wc.heap[gb130]? = some (.cells #[.string x131000_4, .string (⟨#[]⟩ : ByteArray), .string (⟨#[48]⟩ : ByteArray)] 44 (0, 0))) := ⟨by rw [← hq_]; exact (by (with_reducible repeat (first | refine blk_drewN ?_ _ | refine blk_drew ?_ | refine blk_alloc ?_ _)); exact BK130.out)⟩; have n2_ : Aside0 (Below w.heap.size w wc) := ⟨by rw [← hq_]; exact (by repeat (first | (with_reducible first | exact HB.out | apply below_alloc | apply pw_below_drewN | apply below_drew1 | refine below_set ?_ GE129.out | refine below_set ?_ GE130.out) | exact HB.out))⟩; clear BK129 BK130 HB hq_; have BK129 := n0_; have BK130 := n1_; have HB := n2_; clear n0_ n1_ n2_)); have hnb40 := NB130_129.out; have hnc40 := NB129_130.out; have hcz41_0 : wc.cell? ⟨gb130, 0, none⟩ = some (.string x131000_4) := (blk_cell BK130.out 0).trans rfl; have hcz41_1 : wc.cell? ⟨gb130, 1, none⟩ = some (.string (⟨#[]⟩ : ByteArray)) := (blk_cell BK130.out 1).trans rfl; have hcz41_2 : wc.cell? ⟨gb130, 2, none⟩ = some (.string (⟨#[48]⟩ : ByteArray)) := (blk_cell BK130.out 2).trans rfl; have hfz41_0 := blk_frozen BK130.out 0; have hfz41_1 := blk_frozen BK130.out 1; have hfz41_2 := blk_frozen BK130.out 2) | ((with_reducible refine gate_callee (f := 35) rfl ?_); refine goesL_ (some 53) rfl rfl Tryd.func35 (by kernel_rfl) rfl #[.string x0_4] rfl (by (try simp only [List.map_toArray, List.map_cons, List.map_nil]); first | done | rfl | (simp only [List.length_drop, List.length_take]; rfl)) ?_; (with_reducible refine (ver_runs.calls kj4 x0_4  _ A36.out).mono ?_); rintro e w' ⟨rfl, ⟨nd, rfl⟩⟩; refine ⟨_, rfl, ?_⟩) | ((with_reducible refine gate_callee (f := 35) rfl ?_); refine goesL_ (some 56) rfl rfl Tryd.func35 (by kernel_rfl) rfl #[.string (⟨#[48]⟩ : ByteArray)] rfl (by (try simp only [List.map_toArray, List.map_cons, List.map_nil]); first | done | rfl | (simp only [List.length_drop, List.length_take]; rfl)) ?_; (with_reducible refine (ver_runs.calls kj4 (⟨#[48]⟩ : ByteArray)  _ A38.out).mono ?_); rintro e w' ⟨rfl, ⟨nd, rfl⟩⟩; refine ⟨_, rfl, ?_⟩; have hcz42_0 : wc.cell? ⟨gb129, 0, none⟩ = some (.string (⟨#[]⟩ : ByteArray)) := (blk_cell BK129.out 0).trans rfl; have hcz42_1 : wc.cell? ⟨gb129, 1, none⟩ = some (.string (⟨#[]⟩ : ByteArray)) := (blk_cell BK129.out 1).trans rfl; have hcz42_2 : wc.cell? ⟨gb129, 2, none⟩ = some (.string (⟨#[]⟩ : ByteArray)) := (blk_cell BK129.out 2).trans rfl; have hfz42_0 := blk_frozen BK129.out 0; have hfz42_1 := blk_frozen BK129.out 1; have hfz42_2 := blk_frozen BK129.out 2))
              refine bodyPost_ret (results_cell_row rfl _ _ gb129 44 #[.string x131000_4, .string x0_4, .string (⟨#[48]⟩ : ByteArray)] (0, 0) _ rfl (by (with_reducible repeat (first | refine blk_drewN ?_ _ | refine blk_drew ?_ | refine blk_alloc ?_ _)); refine blk_put (cs := #[.string x131000_4, .string x0_4, .string (⟨#[]⟩ : ByteArray)]) ?_ 2 _ rfl; (with_reducible repeat (first | refine blk_drewN ?_ _ | refine blk_drew ?_ | refine blk_alloc ?_ _)); refine blk_put (cs := #[.string x131000_4, .string (⟨#[]⟩ : ByteArray), .string (⟨#[]⟩ : ByteArray)]) ?_ 1 _ rfl; (with_reducible repeat (first | refine blk_drewN ?_ _ | refine blk_drew ?_ | refine blk_alloc ?_ _)); refine blk_put (cs := #[.string (⟨#[]⟩ : ByteArray), .string (⟨#[]⟩ : ByteArray), .string (⟨#[]⟩ : ByteArray)]) ?_ 0 _ rfl; (with_reducible repeat (first | refine blk_drewN ?_ _ | refine blk_drew ?_ | refine blk_alloc ?_ _)); refine blk_far ?_ NB129_130.out _; (with_reducible repeat (first | refine blk_drewN ?_ _ | refine blk_drew ?_ | refine blk_alloc ?_ _)); exact BK129.out) Tryd.underlying44 rfl (by kernel_rfl)) rfl ?_
              exact ⟨by first | rfl | (simp [errW_none, errW_some] <;> rfl) | (simp [*, errW_none, errW_some] <;> rfl), by repeat (first | (with_reducible first | exact HB.out | apply below_alloc | apply pw_below_drewN | apply below_drew1 | refine below_set ?_ GE129.out | refine below_set ?_ GE130.out) | exact HB.out)⟩
            · rw [if_neg c39] at H
              have Pc39 := Aside0.mk c39
              clear c39
              exact absurd (congrArg (fun z_ => z_.2.2.2) (Option.some.inj H)) Pc39.out
          · rw [if_neg c37] at H
            have Pc37 := Aside0.mk c37
            clear c37
            exact absurd (congrArg (fun z_ => z_.2.2.2) (Option.some.inj H)) Pc37.out
  · rw [if_neg c3] at H
    have Pc3 := Aside0.mk c3
    clear c3
    exact absurd (congrArg (fun z_ => z_.2.2.2) (Option.some.inj H)) Pc3.out
end Go.Proofs.YtpijehmhgjkkoaaDoor.Q
namespace Go.Proofs.YtpijehmhgjkkoaaDoor.Q
open Go.RowKit Go.Proofs.YtpijehmhgjkkoaaDoorW.PrintWords Go.Proofs.YtpijehmhgjkkoaaDoorW.PrintLast Go.Proofs.YtpijehmhgjkkoaaDoorW.PrintMore
attribute [local go_sem] max2_int min2_int max_two min_two max_three min_three max_four min_four   -- for this text's walks alone
set_option linter.unusedVariables false
set_option linter.unusedSimpArgs false
/-! ### ver_cut: its panics -/
set_option maxHeartbeats 8000000 in
set_option maxRecDepth 100000 in
theorem ver_cut.panics (k : Nat) (a0 : ByteArray) (r1 : ByteArray) (r2 : ByteArray) (r3 : ByteArray) (r4 : Int) (hne : r4 ≠ 0) (w : World) (h : ver_cut.f k a0 = some (r1, r2, r3, r4)) :
    Calls Tryd.prog 19 #[.string a0] w fun e w' => e = .panicked [{ v := .iface 23 (.int .i64 r4), recovered := false }] ∧ Below w.heap.size w w' := by
  have hu44 := Tryd.underlying44
  have HB := Aside0.mk (Below.refl w.heap.size w)
  have H : ((ver_fails.f (decide ((a0.size : Int) ≤ 40)) 4).bind fun t162 => (if t162 = 0 then ((strings_Cut.f a0 (⟨#[58]⟩ : ByteArray)).bind fun bt148 => (if bt148.2.2 = true then (if (bt148.1.size : Int) ≥ 1 then (if (bt148.1.size : Int) ≤ 6 then ((strings_Trim.f bt148.1 (⟨#[48, 49, 50, 51, 52, 53, 54, 55, 56, 57]⟩ : ByteArray)).bind fun t151 => ((ver_fails.f t151.toList.isEmpty 5).bind fun t152 => (if t152 = 0 then (ver_cut.j0 k bt148.2.1 bt148.1 (⟨#[]⟩ : ByteArray) (⟨#[48]⟩ : ByteArray)) else (some ((⟨#[]⟩ : ByteArray), (⟨#[]⟩ : ByteArray), (⟨#[]⟩ : ByteArray), t152))))) else ((ver_fails.f false 5).bind fun t153 => (if t153 = 0 then (ver_cut.j0 k bt148.2.1 bt148.1 (⟨#[]⟩ : ByteArray) (⟨#[48]⟩ : ByteArray)) else (some ((⟨#[]⟩ : ByteArray), (⟨#[]⟩ : ByteArray), (⟨#[]⟩ : ByteArray), t153))))) else ((ver_fails.f false 5).bind fun t154 => (if t154 = 0 then (ver_cut.j0 k bt148.2.1 bt148.1 (⟨#[]⟩ : ByteArray) (⟨#[48]⟩ : ByteArray)) else (some ((⟨#[]⟩ : ByteArray), (⟨#[]⟩ : ByteArray), (⟨#[]⟩ : ByteArray), t154))))) else (ver_cut.j0 k a0 (⟨#[48]⟩ : ByteArray) (⟨#[]⟩ : ByteArray) (⟨#[48]⟩ : ByteArray)))) else (some ((⟨#[]⟩ : ByteArray), (⟨#[]⟩ : ByteArray), (⟨#[]⟩ : ByteArray), t162)))) = some (r1, r2, r3, r4) := h
  clear h
  replace H := Option.bind_eq_some_iff.mp H
  obtain ⟨t162, A20, H⟩ := H
  replace H : (if t162 = 0 then ((strings_Cut.f a0 (⟨#[58]⟩ : ByteArray)).bind fun bt148 => (if bt148.2.2 = true then (if (bt148.1.size : Int) ≥ 1 then (if (bt148.1.size : Int) ≤ 6 then ((strings_Trim.f bt148.1 (⟨#[48, 49, 50, 51, 52, 53, 54, 55, 56, 57]⟩ : ByteArray)).bind fun t151 => ((ver_fails.f t151.toList.isEmpty 5).bind fun t152 => (if t152 = 0 then (ver_cut.j0 k bt148.2.1 bt148.1 (⟨#[]⟩ : ByteArray) (⟨#[48]⟩ : ByteArray)) else (some ((⟨#[]⟩ : ByteArray), (⟨#[]⟩ : ByteArray), (⟨#[]⟩ : ByteArray), t152))))) else ((ver_fails.f false 5).bind fun t153 => (if t153 = 0 then (ver_cut.j0 k bt148.2.1 bt148.1 (⟨#[]⟩ : ByteArray) (⟨#[48]⟩ : ByteArray)) else (some ((⟨#[]⟩ : ByteArray), (⟨#[]⟩ : ByteArray), (⟨#[]⟩ : ByteArray), t153))))) else ((ver_fails.f false 5).bind fun t154 => (if t154 = 0 then (ver_cut.j0 k bt148.2.1 bt148.1 (⟨#[]⟩ : ByteArray) (⟨#[48]⟩ : ByteArray)) else (some ((⟨#[]⟩ : ByteArray), (⟨#[]⟩ : ByteArray), (⟨#[]⟩ : ByteArray), t154))))) else (ver_cut.j0 k a0 (⟨#[48]⟩ : ByteArray) (⟨#[]⟩ : ByteArray) (⟨#[48]⟩ : ByteArray)))) else (some ((⟨#[]⟩ : ByteArray), (⟨#[]⟩ : ByteArray), (⟨#[]⟩ : ByteArray), t162))) = some (r1, r2, r3, r4) := H
  have A2 := Aside0.mk A20
  clear A20
  by_cases c3 : t162 = 0
  · subst c3
    have H1 : ((strings_Cut.f a0 (⟨#[58]⟩ : ByteArray)).bind fun bt148 => (if bt148.2.2 = true then (if (bt148.1.size : Int) ≥ 1 then (if (bt148.1.size : Int) ≤ 6 then ((strings_Trim.f bt148.1 (⟨#[48, 49, 50, 51, 52, 53, 54, 55, 56, 57]⟩ : ByteArray)).bind fun t151 => ((ver_fails.f t151.toList.isEmpty 5).bind fun t152 => (if t152 = 0 then (ver_cut.j0 k bt148.2.1 bt148.1 (⟨#[]⟩ : ByteArray) (⟨#[48]⟩ : ByteArray)) else (some ((⟨#[]⟩ : ByteArray), (⟨#[]⟩ : ByteArray), (⟨#[]⟩ : ByteArray), t152))))) else ((ver_fails.f false 5).bind fun t153 => (if t153 = 0 then (ver_cut.j0 k bt148.2.1 bt148.1 (⟨#[]⟩ : ByteArray) (⟨#[48]⟩ : ByteArray)) else (some ((⟨#[]⟩ : ByteArray), (⟨#[]⟩ : ByteArray), (⟨#[]⟩ : ByteArray), t153))))) else ((ver_fails.f false 5).bind fun t154 => (if t154 = 0 then (ver_cut.j0 k bt148.2.1 bt148.1 (⟨#[]⟩ : ByteArray) (⟨#[48]⟩ : ByteArray)) else (some ((⟨#[]⟩ : ByteArray), (⟨#[]⟩ : ByteArray), (⟨#[]⟩ : ByteArray), t154))))) else (ver_cut.j0 k a0 (⟨#[48]⟩ : ByteArray) (⟨#[]⟩ : ByteArray) (⟨#[48]⟩ : ByteArray)))) = some (r1, r2, r3, r4) := by rw [if_pos rfl] at H; exact H
    clear H
    have H := H1
    clear H1
    replace H := Option.bind_eq_some_iff.mp H
    obtain ⟨⟨t148, t149, t150⟩, A40, H⟩ := H
    replace H : (if t150 = true then (if (t148.size : Int) ≥ 1 then (if (t148.size : Int) ≤ 6 then ((strings_Trim.f t148 (⟨#[48, 49, 50, 51, 52, 53, 54, 55, 56, 57]⟩ : ByteArray)).bind fun t151 => ((ver_fails.f t151.toList.isEmpty 5).bind fun t152 => (if t152 = 0 then (ver_cut.j0 k t149 t148 (⟨#[]⟩ : ByteArray) (⟨#[48]⟩ : ByteArray)) else (some ((⟨#[]⟩ : ByteArray), (⟨#[]⟩ : ByteArray), (⟨#[]⟩ : ByteArray), t152))))) else ((ver_fails.f false 5).bind fun t153 => (if t153 = 0 then (ver_cut.j0 k t149 t148 (⟨#[]⟩ : ByteArray) (⟨#[48]⟩ : ByteArray)) else (some ((⟨#[]⟩ : ByteArray), (⟨#[]⟩ : ByteArray), (⟨#[]⟩ : ByteArray), t153))))) else ((ver_fails.f false 5).bind fun t154 => (if t154 = 0 then (ver_cut.j0 k t149 t148 (⟨#[]⟩ : ByteArray) (⟨#[48]⟩ : ByteArray)) else (some ((⟨#[]⟩ : ByteArray), (⟨#[]⟩ : ByteArray), (⟨#[]⟩ : ByteArray), t154))))) else (ver_cut.j0 k a0 (⟨#[48]⟩ : ByteArray) (⟨#[]⟩ : ByteArray) (⟨#[48]⟩ : ByteArray))) = some (r1, r2, r3, r4) := H
    have A4 := Aside0.mk A40
    clear A40
    have HC5 := Aside0.mk H
    clear H
    go_enter Tryd.func19, Tryd.ntmps19
    go_upto_if 21 with (first | ((with_reducible refine gate_dst (N := 2) rfl ?_); (try (refine gate_guard (by rfl) ?_; dsimp only)); refine box_event ?hg (N := 2) ?hd (cs := #[.string (⟨#[]⟩ : ByteArray), .string (⟨#[]⟩ : ByteArray), .string (⟨#[]⟩ : ByteArray)]) (t := 44) ?hr ?_; (case hd => rfl); (case hg => rfl); (case hr => first | (go_simp; done) | (go_simp; rfl)); intro gb146 hg w6 hbox hb; have n0_ := Aside0.mk (below_step (by repeat (first | (with_reducible first | exact HB.out | apply below_alloc | apply pw_below_drewN | apply below_drew1) | exact HB.out)) hb); have n1_ := Aside0.mk (hbox); have n2_ := Aside0.mk ((by rw [hg]; exact (below_size (by repeat (first | (with_reducible first | exact HB.out | apply below_alloc | apply pw_below_drewN | apply below_drew1) | exact HB.out))) : w.heap.size ≤ gb146)); have n3_ := Aside0.mk ((by rw [hg]; exact (below_size (by repeat (first | (with_reducible first | exact HB.out | apply below_alloc | apply pw_below_drewN | apply below_drew1) | exact HB.out))) : w.heap.size ≤ gb146)); clear HB; have HB := n0_; have BK146 := n1_; have GW146 := n2_; have GE146 := n3_; clear n0_ n1_ n2_ n3_; clear hb hbox hg) | ((with_reducible refine gate_callee (f := 33) rfl ?_); refine goesL_ (some 13) rfl rfl Tryd.func33 (by kernel_rfl) rfl #[.bool (decide ((a0.size : Int) ≤ 40)), .int .i64 4] rfl (by (try simp only [List.map_toArray, List.map_cons, List.map_nil]); first | done | rfl | (simp only [List.length_drop, List.length_take]; rfl)) ?_; (with_reducible refine (ver_fails.calls (decide ((a0.size : Int) ≤ 40)) 4  _ A2.out).mono ?_); rintro e w' ⟨rfl, ⟨nd, rfl⟩⟩; refine ⟨_, rfl, ?_⟩; (try (rw [drewN_self w6]; generalize hq_ : World.drewN w6 _ = w6; have n0_ : Aside0 (w6.heap[gb146]? = some (.cells #[.string (⟨#[]⟩ : ByteArray), .string (⟨#[]⟩ : ByteArray), .string (⟨#[]⟩ : ByteArray)] 44 (0, 0))) := ⟨by rw [← hq_]; exact (by (with_reducible repeat (first | refine blk_drewN ?_ _ | refine blk_drew ?_ | refine blk_alloc ?_ _)); exact BK146.out)⟩; have n1_ : Aside0 (Below w.heap.size w w6) := ⟨by rw [← hq_]; exact (by repeat (first | (with_reducible first | exact HB.out | apply below_alloc | apply pw_below_drewN | apply below_drew1 | refine below_set ?_ GE146.out) | exact HB.out))⟩; clear BK146 HB hq_; have BK146 := n0_; have HB := n1_; clear n0_ n1_))) | ((with_reducible refine gate_dst (N := 3) rfl ?_); (try (refine gate_guard (by rfl) ?_; dsimp only)); refine box_event ?hg (N := 3) ?hd (cs := #[.string (⟨#[]⟩ : ByteArray), .string (⟨#[]⟩ : ByteArray), .string (⟨#[]⟩ : ByteArray)]) (t := 44) ?hr ?_; (case hd => rfl); (case hg => rfl); (case hr => first | (go_simp; done) | (go_simp; rfl)); intro gb147 hg w7 hbox hb; have n0_ := Aside0.mk (blk_below (g := gb146) (o := .cells #[.string (⟨#[]⟩ : ByteArray), .string (⟨#[]⟩ : ByteArray), .string (⟨#[]⟩ : ByteArray)] 44 (0, 0)) (by (with_reducible repeat (first | refine blk_drewN ?_ _ | refine blk_drew ?_ | refine blk_alloc ?_ _)); exact BK146.out) hb); have n1_ := Aside0.mk (below_step (by repeat (first | (with_reducible first | exact HB.out | apply below_alloc | apply pw_below_drewN | apply below_drew1 | refine below_set ?_ GE146.out) | exact HB.out)) hb); have n2_ := Aside0.mk (hbox); have n3_ := Aside0.mk ((by rw [hg]; exact (below_size (by repeat (first | (with_reducible first | exact HB.out | apply below_alloc | apply pw_below_drewN | apply below_drew1 | refine below_set ?_ GE146.out) | exact HB.out))) : w.heap.size ≤ gb147)); have n4_ := Aside0.mk ((by rw [hg]; exact (below_size (by repeat (first | (with_reducible first | exact HB.out | apply below_alloc | apply pw_below_drewN | apply below_drew1 | refine below_set ?_ GE146.out) | exact HB.out))) : w.heap.size ≤ gb147)); have n5_ := Aside0.mk ((by rw [hg]; exact Nat.ne_of_lt (blk_lt (g := gb146) (o := .cells #[.string (⟨#[]⟩ : ByteArray), .string (⟨#[]⟩ : ByteArray), .string (⟨#[]⟩ : ByteArray)] 44 (0, 0)) (by (with_reducible repeat (first | refine blk_drewN ?_ _ | refine blk_drew ?_ | refine blk_alloc ?_ _)); exact BK146.out)) : gb146 ≠ gb147)); have n6_ := Aside0.mk ((by rw [hg]; exact Nat.ne_of_gt (blk_lt (g := gb146) (o := .cells #[.string (⟨#[]⟩ : ByteArray), .string (⟨#[]⟩ : ByteArray), .string (⟨#[]⟩ : ByteArray)] 44 (0, 0)) (by (with_reducible repeat (first | refine blk_drewN ?_ _ | refine blk_drew ?_ | refine blk_alloc ?_ _)); exact BK146.out)) : gb147 ≠ gb146)); clear BK146; clear HB; have BK146 := n0_; have HB := n1_; have BK147 := n2_; have GW147 := n3_; have GE147 := n4_; have NB146_147 := n5_; have NB147_146 := n6_; clear n0_ n1_ n2_ n3_ n4_ n5_ n6_; clear hb hbox hg; have hnb8 := NB147_146.out; have hnc8 := NB146_147.out; have hcz9_0 : w7.cell? ⟨gb147, 0, none⟩ = some (.string (⟨#[]⟩ : ByteArray)) := (blk_cell BK147.out 0).trans rfl; have hcz9_1 : w7.cell? ⟨gb147, 1, none⟩ = some (.string (⟨#[]⟩ : ByteArray)) := (blk_cell BK147.out 1).trans rfl; have hcz9_2 : w7.cell? ⟨gb147, 2, none⟩ = some (.string (⟨#[]⟩ : ByteArray)) := (blk_cell BK147.out 2).trans rfl; have hfz9_0 := blk_frozen BK147.out 0; have hfz9_1 := blk_frozen BK147.out 1; have hfz9_2 := blk_frozen BK147.out 2) | ((with_reducible refine gate_callee (f := 25) rfl ?_); refine goesL_ (some 17) rfl rfl Tryd.func25 (by kernel_rfl) rfl #[.string a0, .string (⟨#[58]⟩ : ByteArray)] rfl (by (try simp only [List.map_toArray, List.map_cons, List.map_nil]); first | done | rfl | (simp only [List.length_drop, List.length_take]; rfl)) ?_; (with_reducible refine (strings_Cut.calls a0 (⟨#[58]⟩ : ByteArray) t148 t149 t150 _ A4.out).mono ?_); rintro e w' ⟨rfl, ⟨nd, rfl⟩⟩; refine ⟨_, rfl, ?_⟩))
    (try simp only [Act.put, List.setIfInBounds_toArray, List.set_cons_zero, List.set_cons_succ])
    go_cut [0] (fun v0 wc => ∃ (kq : Nat) (x0_4 : ByteArray) (x148000_4 : ByteArray), v0 = .string x0_4 ∧ Aside0 (ver_cut.j0 kq x0_4 x148000_4 (⟨#[]⟩ : ByteArray) (⟨#[48]⟩ : ByteArray) = some (r1, r2, r3, r4)) ∧ Aside0 (kq ≤ k) ∧ Aside0 (wc.heap[gb146]? = some (.cells #[.string (⟨#[]⟩ : ByteArray), .string (⟨#[]⟩ : ByteArray), .string (⟨#[]⟩ : ByteArray)] 44 (0, 0))) ∧ Aside0 (wc.heap[gb147]? = some (.cells #[.string x148000_4, .string (⟨#[]⟩ : ByteArray), .string (⟨#[48]⟩ : ByteArray)] 44 (0, 0))) ∧ Aside0 (Below w.heap.size w wc))
    case first =>
      have H := HC5.out
      clear HC5
      by_cases c10 : t150 = true
      · subst c10
        have H1 : (if (t148.size : Int) ≥ 1 then (if (t148.size : Int) ≤ 6 then ((strings_Trim.f t148 (⟨#[48, 49, 50, 51, 52, 53, 54, 55, 56, 57]⟩ : ByteArray)).bind fun t151 => ((ver_fails.f t151.toList.isEmpty 5).bind fun t152 => (if t152 = 0 then (ver_cut.j0 k t149 t148 (⟨#[]⟩ : ByteArray) (⟨#[48]⟩ : ByteArray)) else (some ((⟨#[]⟩ : ByteArray), (⟨#[]⟩ : ByteArray), (⟨#[]⟩ : ByteArray), t152))))) else ((ver_fails.f false 5).bind fun t153 => (if t153 = 0 then (ver_cut.j0 k t149 t148 (⟨#[]⟩ : ByteArray) (⟨#[48]⟩ : ByteArray)) else (some ((⟨#[]⟩ : ByteArray), (⟨#[]⟩ : ByteArray), (⟨#[]⟩ : ByteArray), t153))))) else ((ver_fails.f false 5).bind fun t154 => (if t154 = 0 then (ver_cut.j0 k t149 t148 (⟨#[]⟩ : ByteArray) (⟨#[48]⟩ : ByteArray)) else (some ((⟨#[]⟩ : ByteArray), (⟨#[]⟩ : ByteArray), (⟨#[]⟩ : ByteArray), t154))))) = some (r1, r2, r3, r4) := by rw [if_pos rfl] at H; exact H
        clear H
        have H := H1
        clear H1
        by_cases c11 : (t148.size : Int) ≥ 1
        · rw [if_pos c11] at H
          have c11b0 : decide (1 ≤ (t148.size : Int)) = true := decide_eq_true c11
          have c11b1 : decide (1 ≤ t148.size) = true := decide_eq_true (by omega)
          clear c11
          (first | rw [c11b0] | (simp only [i64_w, i32_w]; rw [c11b0]) | rw [c11b2] | skip)
          by_cases c12 : (t148.size : Int) ≤ 6
          · rw [if_pos c12] at H
            have c12b0 : decide ((t148.size : Int) ≤ 6) = true := decide_eq_true c12
            have c12b1 : decide (t148.size ≤ 6) = true := decide_eq_true (by omega)
            clear c12
            replace H := Option.bind_eq_some_iff.mp H
            obtain ⟨t151, A130, H⟩ := H
            replace H : ((ver_fails.f t151.toList.isEmpty 5).bind fun t152 => (if t152 = 0 then (ver_cut.j0 k t149 t148 (⟨#[]⟩ : ByteArray) (⟨#[48]⟩ : ByteArray)) else (some ((⟨#[]⟩ : ByteArray), (⟨#[]⟩ : ByteArray), (⟨#[]⟩ : ByteArray), t152)))) = some (r1, r2, r3, r4) := H
            have A13 := Aside0.mk A130
            clear A130
            replace H := Option.bind_eq_some_iff.mp H
            obtain ⟨t152, A140, H⟩ := H
            replace H : (if t152 = 0 then (ver_cut.j0 k t149 t148 (⟨#[]⟩ : ByteArray) (⟨#[48]⟩ : ByteArray)) else (some ((⟨#[]⟩ : ByteArray), (⟨#[]⟩ : ByteArray), (⟨#[]⟩ : ByteArray), t152))) = some (r1, r2, r3, r4) := H
            have A14 := Aside0.mk A140
            clear A140
            by_cases c15 : t152 = 0
            · subst c15
              have H1 : (ver_cut.j0 k t149 t148 (⟨#[]⟩ : ByteArray) (⟨#[48]⟩ : ByteArray)) = some (r1, r2, r3, r4) := by rw [if_pos rfl] at H; exact H
              clear H
              have H := H1
              clear H1
              have H' := Aside0.mk H
              clear H
              go_wp2_with (first | (go_at_call 34; (with_reducible refine (strings_Trim.calls t148 (⟨#[48, 49, 50, 51, 52, 53, 54, 55, 56, 57]⟩ : ByteArray) t151 _ A13.out).mono ?_); rintro e w16 ⟨rfl, hb⟩; have n0_ := Aside0.mk (blk_below (g := gb146) (o := .cells #[.string (⟨#[]⟩ : ByteArray), .string (⟨#[]⟩ : ByteArray), .string (⟨#[]⟩ : ByteArray)] 44 (0, 0)) (by (with_reducible repeat (first | refine blk_drewN ?_ _ | refine blk_drew ?_ | refine blk_alloc ?_ _)); refine blk_far ?_ NB146_147.out _; (with_reducible repeat (first | refine blk_drewN ?_ _ | refine blk_drew ?_ | refine blk_alloc ?_ _)); refine blk_far ?_ NB146_147.out _; (with_reducible repeat (first | refine blk_drewN ?_ _ | refine blk_drew ?_ | refine blk_alloc ?_ _)); refine blk_far ?_ NB146_147.out _; (with_reducible repeat (first | refine blk_drewN ?_ _ | refine blk_drew ?_ | refine blk_alloc ?_ _)); exact BK146.out) hb); have n1_ := Aside0.mk (blk_below (g := gb147) (o := .cells #[.string (⟨#[48]⟩ : ByteArray), .string (⟨#[]⟩ : ByteArray), .string (⟨#[48]⟩ : ByteArray)] 44 (0, 0)) (by (with_reducible repeat (first | refine blk_drewN ?_ _ | refine blk_drew ?_ | refine blk_alloc ?_ _)); refine blk_put (cs := #[.string (⟨#[48]⟩ : ByteArray), .string (⟨#[]⟩ : ByteArray), .string (⟨#[]⟩ : ByteArray)]) ?_ 2 _ rfl; (with_reducible repeat (first | refine blk_drewN ?_ _ | refine blk_drew ?_ | refine blk_alloc ?_ _)); refine blk_put (cs := #[.string (⟨#[48]⟩ : ByteArray), .string (⟨#[]⟩ : ByteArray), .string (⟨#[]⟩ : ByteArray)]) ?_ 1 _ rfl; (with_reducible repeat (first | refine blk_drewN ?_ _ | refine blk_drew ?_ | refine blk_alloc ?_ _)); refine blk_put (cs := #[.string (⟨#[]⟩ : ByteArray), .string (⟨#[]⟩ : ByteArray), .string (⟨#[]⟩ : ByteArray)]) ?_ 0 _ rfl; (with_reducible repeat (first | refine blk_drewN ?_ _ | refine blk_drew ?_ | refine blk_alloc ?_ _)); exact BK147.out) hb); have n2_ := Aside0.mk (below_step (by repeat (first | (with_reducible first | exact HB.out | apply below_alloc | apply pw_below_drewN | apply below_drew1 | refine below_set ?_ GE146.out | refine below_set ?_ GE147.out) | exact HB.out)) hb); clear BK146; clear BK147; clear HB; have BK146 := n0_; have BK147 := n1_; have HB := n2_; clear n0_ n1_ n2_; (try clear hb); (try clear hb2); (try clear hk); (try clear hi)) | ((with_reducible refine gate_callee (f := 33) rfl ?_); refine goesL_ (some 35) rfl rfl Tryd.func33 (by kernel_rfl) rfl #[.bool t151.toList.isEmpty, .int .i64 5] rfl (by (try simp only [List.map_toArray, List.map_cons, List.map_nil]); first | done | rfl | (simp only [List.length_drop, List.length_take]; rfl)) ?_; (with_reducible refine (ver_fails.calls t151.toList.isEmpty 5  _ A14.out).mono ?_); rintro e w' ⟨rfl, ⟨nd, rfl⟩⟩; refine ⟨_, rfl, ?_⟩; (try (rw [drewN_self w16]; generalize hq_ : World.drewN w16 _ = w16; have n0_ : Aside0 (w16.heap[gb146]? = some (.cells #[.string (⟨#[]⟩ : ByteArray), .string (⟨#[]⟩ : ByteArray), .string (⟨#[]⟩ : ByteArray)] 44 (0, 0))) := ⟨by rw [← hq_]; exact (by (with_reducible repeat (first | refine blk_drewN ?_ _ | refine blk_drew ?_ | refine blk_alloc ?_ _)); exact BK146.out)⟩; have n1_ : Aside0 (w16.heap[gb147]? = some (.cells #[.string (⟨#[48]⟩ : ByteArray), .string (⟨#[]⟩ : ByteArray), .string (⟨#[48]⟩ : ByteArray)] 44 (0, 0))) := ⟨by rw [← hq_]; exact (by (with_reducible repeat (first | refine blk_drewN ?_ _ | refine blk_drew ?_ | refine blk_alloc ?_ _)); exact BK147.out)⟩; have n2_ : Aside0 (Below w.heap.size w w16) := ⟨by rw [← hq_]; exact (by repeat (first | (with_reducible first | exact HB.out | apply below_alloc | apply pw_below_drewN | apply below_drew1 | refine below_set ?_ GE146.out | refine below_set ?_ GE147.out) | exact HB.out))⟩; clear BK146 BK147 HB hq_; have BK146 := n0_; have BK147 := n1_; have HB := n2_; clear n0_ n1_ n2_)); have hnb17 := NB147_146.out; have hnc17 := NB146_147.out; have hcz18_0 : w16.cell? ⟨gb147, 0, none⟩ = some (.string (⟨#[48]⟩ : ByteArray)) := (blk_cell BK147.out 0).trans rfl; have hcz18_1 : w16.cell? ⟨gb147, 1, none⟩ = some (.string (⟨#[]⟩ : ByteArray)) := (blk_cell BK147.out 1).trans rfl; have hcz18_2 : w16.cell? ⟨gb147, 2, none⟩ = some (.string (⟨#[48]⟩ : ByteArray)) := (blk_cell BK147.out 2).trans rfl; have hfz18_0 := blk_frozen BK147.out 0; have hfz18_1 := blk_frozen BK147.out 1; have hfz18_2 := blk_frozen BK147.out 2))
              go_meet
              case rel => exact ⟨_, (t149), (t148), (by first | rfl | (simp; done) | (simp [*]; done)), H', ⟨by first | omega | exact Nat.le_refl _⟩, ⟨by (with_reducible repeat (first | refine blk_drewN ?_ _ | refine blk_drew ?_ | refine blk_alloc ?_ _)); refine blk_far ?_ NB146_147.out _; (with_reducible repeat (first | refine blk_drewN ?_ _ | refine blk_drew ?_ | refine blk_alloc ?_ _)); exact BK146.out⟩, ⟨by (with_reducible repeat (first | refine blk_drewN ?_ _ | refine blk_drew ?_ | refine blk_alloc ?_ _)); refine blk_put (cs := #[.string (⟨#[48]⟩ : ByteArray), .string (⟨#[]⟩ : ByteArray), .string (⟨#[48]⟩ : ByteArray)]) ?_ 0 _ rfl; (with_reducible repeat (first | refine blk_drewN ?_ _ | refine blk_drew ?_ | refine blk_alloc ?_ _)); exact BK147.out⟩, ⟨by repeat (first | (with_reducible first | exact HB.out | apply below_alloc | apply pw_below_drewN | apply below_drew1 | refine below_set ?_ GE146.out | refine below_set ?_ GE147.out) | exact HB.out)⟩⟩
            · rw [if_neg c15] at H
              have Pc15 := Aside0.mk c15
              clear c15
              obtain rfl : t152 = r4 := congrArg (fun z_ => z_.2.2.2) (Option.some.inj H)
              clear H
              go_wp2_with (first | (go_at_call 34; (with_reducible refine (strings_Trim.calls t148 (⟨#[48, 49, 50, 51, 52, 53, 54, 55, 56, 57]⟩ : ByteArray) t151 _ A13.out).mono ?_); rintro e w19 ⟨rfl, hb⟩; have n0_ := Aside0.mk (blk_below (g := gb146) (o := .cells #[.string (⟨#[]⟩ : ByteArray), .string (⟨#[]⟩ : ByteArray), .string (⟨#[]⟩ : ByteArray)] 44 (0, 0)) (by (with_reducible repeat (first | refine blk_drewN ?_ _ | refine blk_drew ?_ | refine blk_alloc ?_ _)); refine blk_far ?_ NB146_147.out _; (with_reducible repeat (first | refine blk_drewN ?_ _ | refine blk_drew ?_ | refine blk_alloc ?_ _)); refine blk_far ?_ NB146_147.out _; (with_reducible repeat (first | refine blk_drewN ?_ _ | refine blk_drew ?_ | refine blk_alloc ?_ _)); refine blk_far ?_ NB146_147.out _; (with_reducible repeat (first | refine blk_drewN ?_ _ | refine blk_drew ?_ | refine blk_alloc ?_ _)); exact BK146.out) hb); have n1_ := Aside0.mk (blk_below (g := gb147) (o := .cells #[.string (⟨#[48]⟩ : ByteArray), .string (⟨#[]⟩ : ByteArray), .string (⟨#[48]⟩ : ByteArray)] 44 (0, 0)) (by (with_reducible repeat (first | refine blk_drewN ?_ _ | refine blk_drew ?_ | refine blk_alloc ?_ _)); refine blk_put (cs := #[.string (⟨#[48]⟩ : ByteArray), .string (⟨#[]⟩ : ByteArray), .string (⟨#[]⟩ : ByteArray)]) ?_ 2 _ rfl; (with_reducible repeat (first | refine blk_drewN ?_ _ | refine blk_drew ?_ | refine blk_alloc ?_ _)); refine blk_put (cs := #[.string (⟨#[48]⟩ : ByteArray), .string (⟨#[]⟩ : ByteArray), .string (⟨#[]⟩ : ByteArray)]) ?_ 1 _ rfl; (with_reducible repeat (first | refine blk_drewN ?_ _ | refine blk_drew ?_ | refine blk_alloc ?_ _)); refine blk_put (cs := #[.string (⟨#[]⟩ : ByteArray), .string (⟨#[]⟩ : ByteArray), .string (⟨#[]⟩ : ByteArray)]) ?_ 0 _ rfl; (with_reducible repeat (first | refine blk_drewN ?_ _ | refine blk_drew ?_ | refine blk_alloc ?_ _)); exact BK147.out) hb); have n2_ := Aside0.mk (below_step (by repeat (first | (with_reducible first | exact HB.out | apply below_alloc | apply pw_below_drewN | apply below_drew1 | refine below_set ?_ GE146.out | refine below_set ?_ GE147.out) | exact HB.out)) hb); clear BK146; clear BK147; clear HB; have BK146 := n0_; have BK147 := n1_; have HB := n2_; clear n0_ n1_ n2_; (try clear hb); (try clear hb2); (try clear hk); (try clear hi)) | ((with_reducible refine gate_callee (f := 33) rfl ?_); refine goesP_ rfl Tryd.func33 (by kernel_rfl) rfl #[.bool t151.toList.isEmpty, .int .i64 5] rfl (by (try simp only [List.map_toArray, List.map_cons, List.map_nil]); first | done | rfl | (simp only [List.length_drop, List.length_take]; rfl)) ?_; (with_reducible refine (ver_fails.panics t151.toList.isEmpty 5 t152 Pc15.out _ A14.out).mono ?_); rintro e w' ⟨rfl, ⟨nd, rfl⟩⟩; refine ⟨_, rfl, ?_⟩))
              first | exact ⟨rfl, rfl, by repeat (first | (with_reducible first | exact HB.out | apply below_alloc | apply pw_below_drewN | apply below_drew1 | refine below_set ?_ GE146.out | refine below_set ?_ GE147.out) | exact HB.out)⟩ | exact And.intro rfl (And.intro rfl (by repeat (first | (with_reducible first | exact HB.out | apply below_alloc | apply pw_below_drewN | apply below_drew1 | refine below_set ?_ GE146.out | refine below_set ?_ GE147.out) | exact HB.out)))
          · rw [if_neg c12] at H
            have c12b0 : decide ((t148.size : Int) ≤ 6) = false := decide_eq_false c12
            have c12b1 : decide (t148.size ≤ 6) = false := decide_eq_false (by omega)
            clear c12
            replace H := Option.bind_eq_some_iff.mp H
            obtain ⟨t153, A200, H⟩ := H
            replace H : (if t153 = 0 then (ver_cut.j0 k t149 t148 (⟨#[]⟩ : ByteArray) (⟨#[48]⟩ : ByteArray)) else (some ((⟨#[]⟩ : ByteArray), (⟨#[]⟩ : ByteArray), (⟨#[]⟩ : ByteArray), t153))) = some (r1, r2, r3, r4) := H
            have A20 := Aside0.mk A200
            clear A200
            by_cases c21 : t153 = 0
            · subst c21
              have H1 : (ver_cut.j0 k t149 t148 (⟨#[]⟩ : ByteArray) (⟨#[48]⟩ : ByteArray)) = some (r1, r2, r3, r4) := by rw [if_pos rfl] at H; exact H
              clear H
              have H := H1
              clear H1
              have H' := Aside0.mk H
              clear H
              go_wp2_with (first | ((with_reducible refine gate_callee (f := 33) rfl ?_); refine goesL_ (some 35) rfl rfl Tryd.func33 (by kernel_rfl) rfl #[.bool false, .int .i64 5] rfl (by (try simp only [List.map_toArray, List.map_cons, List.map_nil]); first | done | rfl | (simp only [List.length_drop, List.length_take]; rfl)) ?_; (with_reducible refine (ver_fails.calls false 5  _ A20.out).mono ?_); rintro e w' ⟨rfl, ⟨nd, rfl⟩⟩; refine ⟨_, rfl, ?_⟩; have hnb22 := NB147_146.out; have hnc22 := NB146_147.out; have hcz23_0 : w7.cell? ⟨gb147, 0, none⟩ = some (.string (⟨#[]⟩ : ByteArray)) := (blk_cell BK147.out 0).trans rfl; have hcz23_1 : w7.cell? ⟨gb147, 1, none⟩ = some (.string (⟨#[]⟩ : ByteArray)) := (blk_cell BK147.out 1).trans rfl; have hcz23_2 : w7.cell? ⟨gb147, 2, none⟩ = some (.string (⟨#[]⟩ : ByteArray)) := (blk_cell BK147.out 2).trans rfl; have hfz23_0 := blk_frozen BK147.out 0; have hfz23_1 := blk_frozen BK147.out 1; have hfz23_2 := blk_frozen BK147.out 2))
              go_meet
              case rel => exact ⟨_, (t149), (t148), (by first | rfl | (simp; done) | (simp [*]; done)), H', ⟨by first | omega | exact Nat.le_refl _⟩, ⟨by (with_reducible repeat (first | refine blk_drewN ?_ _ | refine blk_drew ?_ | refine blk_alloc ?_ _)); refine blk_far ?_ NB146_147.out _; (with_reducible repeat (first | refine blk_drewN ?_ _ | refine blk_drew ?_ | refine blk_alloc ?_ _)); refine blk_far ?_ NB146_147.out _; (with_reducible repeat (first | refine blk_drewN ?_ _ | refine blk_drew ?_ | refine blk_alloc ?_ _)); refine blk_far ?_ NB146_147.out _; (with_reducible repeat (first | refine blk_drewN ?_ _ | refine blk_drew ?_ | refine blk_alloc ?_ _)); refine blk_far ?_ NB146_147.out _; (with_reducible repeat (first | refine blk_drewN ?_ _ | refine blk_drew ?_ | refine blk_alloc ?_ _)); exact BK146.out⟩, ⟨by (with_reducible repeat (first | refine blk_drewN ?_ _ | refine blk_drew ?_ | refine blk_alloc ?_ _)); refine blk_put (cs := #[.string (⟨#[48]⟩ : ByteArray), .string (⟨#[]⟩ : ByteArray), .string (⟨#[48]⟩ : ByteArray)]) ?_ 0 _ rfl; (with_reducible repeat (first | refine blk_drewN ?_ _ | refine blk_drew ?_ | refine blk_alloc ?_ _)); refine blk_put (cs := #[.string (⟨#[48]⟩ : ByteArray), .string (⟨#[]⟩ : ByteArray), .string (⟨#[]⟩ : ByteArray)]) ?_ 2 _ rfl; (with_reducible repeat (first | refine blk_drewN ?_ _ | refine blk_drew ?_ | refine blk_alloc ?_ _)); refine blk_put (cs := #[.string (⟨#[48]⟩ : ByteArray), .string (⟨#[]⟩ : ByteArray), .string (⟨#[]⟩ : ByteArray)]) ?_ 1 _ rfl; (with_reducible repeat (first | refine blk_drewN ?_ _ | refine blk_drew ?_ | refine blk_alloc ?_ _)); refine blk_put (cs := #[.string (⟨#[]⟩ : ByteArray), .string (⟨#[]⟩ : ByteArray), .string (⟨#[]⟩ : ByteArray)]) ?_ 0 _ rfl; (with_reducible repeat (first | refine blk_drewN ?_ _ | refine blk_drew ?_ | refine blk_alloc ?_ _)); exact BK147.out⟩, ⟨by repeat (first | (with_reducible first | exact HB.out | apply below_alloc | apply pw_below_drewN | apply below_drew1 | refine below_set ?_ GE146.out | refine below_set ?_ GE147.out) | exact HB.out)⟩⟩
            · rw [if_neg c21] at H
              have Pc21 := Aside0.mk c21
              clear c21
              obtain rfl : t153 = r4 := congrArg (fun z_ => z_.2.2.2) (Option.some.inj H)
              clear H
              go_wp2_with (first | ((with_reducible refine gate_callee (f := 33) rfl ?_); refine goesP_ rfl Tryd.func33 (by kernel_rfl) rfl #[.bool false, .int .i64 5] rfl (by (try simp only [List.map_toArray, List.map_cons, List.map_nil]); first | done | rfl | (simp only [List.length_drop, List.length_take]; rfl)) ?_; (with_reducible refine (ver_fails.panics false 5 t153 Pc21.out _ A20.out).mono ?_); rintro e w' ⟨rfl, ⟨nd, rfl⟩⟩; refine ⟨_, rfl, ?_⟩))
              first | exact ⟨rfl, rfl, by repeat (first | (with_reducible first | exact HB.out | apply below_alloc | apply pw_below_drewN | apply below_drew1 | refine below_set ?_ GE146.out | refine below_set ?_ GE147.out) | exact HB.out)⟩ | exact And.intro rfl (And.intro rfl (by repeat (first | (with_reducible first | exact HB.out | apply below_alloc | apply pw_below_drewN | apply below_drew1 | refine below_set ?_ GE146.out | refine below_set ?_ GE147.out) | exact HB.out)))
        · rw [if_neg c11] at H
          have c11b0 : decide (1 ≤ (t148.size : Int)) = false := decide_eq_false c11
          have c11b1 : decide (1 ≤ t148.size) = false := decide_eq_false (by omega)
          clear c11
          (first | rw [c11b0] | (simp only [i64_w, i32_w]; rw [c11b0]) | rw [c11b2] | skip)
          replace H := Option.bind_eq_some_iff.mp H
          obtain ⟨t154, A240, H⟩ := H
          replace H : (if t154 = 0 then (ver_cut.j0 k t149 t148 (⟨#[]⟩ : ByteArray) (⟨#[48]⟩ : ByteArray)) else (some ((⟨#[]⟩ : ByteArray), (⟨#[]⟩ : ByteArray), (⟨#[]⟩ : ByteArray), t154))) = some (r1, r2, r3, r4) := H
          have A24 := Aside0.mk A240
          clear A240
          by_cases c25 : t154 = 0
          · subst c25
            have H1 : (ver_cut.j0 k t149 t148 (⟨#[]⟩ : ByteArray) (⟨#[48]⟩ : ByteArray)) = some (r1, r2, r3, r4) := by rw [if_pos rfl] at H; exact H
            clear H
            have H := H1
            clear H1
            have H' := Aside0.mk H
            clear H
            go_wp2_with (first | ((with_reducible refine gate_callee (f := 33) rfl ?_); refine goesL_ (some 35) rfl rfl Tryd.func33 (by kernel_rfl) rfl #[.bool false, .int .i64 5] rfl (by (try simp only [List.map_toArray, List.map_cons, List.map_nil]); first | done | rfl | (simp only [List.length_drop, List.length_take]; rfl)) ?_; (with_reducible refine (ver_fails.calls false 5  _ A24.out).mono ?_); rintro e w' ⟨rfl, ⟨nd, rfl⟩⟩; refine ⟨_, rfl, ?_⟩; have hnb26 := NB147_146.out; have hnc26 := NB146_147.out; have hcz27_0 : w7.cell? ⟨gb147, 0, none⟩ = some (.string (⟨#[]⟩ : ByteArray)) := (blk_cell BK147.out 0).trans rfl; have hcz27_1 : w7.cell? ⟨gb147, 1, none⟩ = some (.string (⟨#[]⟩ : ByteArray)) := (blk_cell BK147.out 1).trans rfl; have hcz27_2 : w7.cell? ⟨gb147, 2, none⟩ = some (.string (⟨#[]⟩ : ByteArray)) := (blk_cell BK147.out 2).trans rfl; have hfz27_0 := blk_frozen BK147.out 0; have hfz27_1 := blk_frozen BK147.out 1; have hfz27_2 := blk_frozen BK147.out 2))
            go_meet
            case rel => exact ⟨_, (t149), (t148), (by first | rfl | (simp; done) | (simp [*]; done)), H', ⟨by first | omega | exact Nat.le_refl _⟩, ⟨by (with_reducible repeat (first | refine blk_drewN ?_ _ | refine blk_drew ?_ | refine blk_alloc ?_ _)); refine blk_far ?_ NB146_147.out _; (with_reducible repeat (first | refine blk_drewN ?_ _ | refine blk_drew ?_ | refine blk_alloc ?_ _)); refine blk_far ?_ NB146_147.out _; (with_reducible repeat (first | refine blk_drewN ?_ _ | refine blk_drew ?_ | refine blk_alloc ?_ _)); refine blk_far ?_ NB146_147.out _; (with_reducible repeat (first | refine blk_drewN ?_ _ | refine blk_drew ?_ | refine blk_alloc ?_ _)); refine blk_far ?_ NB146_147.out _; (with_reducible repeat (first | refine blk_drewN ?_ _ | refine blk_drew ?_ | refine blk_alloc ?_ _)); exact BK146.out⟩, ⟨by (with_reducible repeat (first | refine blk_drewN ?_ _ | refine blk_drew ?_ | refine blk_alloc ?_ _)); refine blk_put (cs := #[.string (⟨#[48]⟩ : ByteArray), .string (⟨#[]⟩ : ByteArray), .string (⟨#[48]⟩ : ByteArray)]) ?_ 0 _ rfl; (with_reducible repeat (first | refine blk_drewN ?_ _ | refine blk_drew ?_ | refine blk_alloc ?_ _)); refine blk_put (cs := #[.string (⟨#[48]⟩ : ByteArray), .string (⟨#[]⟩ : ByteArray), .string (⟨#[]⟩ : ByteArray)]) ?_ 2 _ rfl; (with_reducible repeat (first | refine blk_drewN ?_ _ | refine blk_drew ?_ | refine blk_alloc ?_ _)); refine blk_put (cs := #[.string (⟨#[48]⟩ : ByteArray), .string (⟨#[]⟩ : ByteArray), .string (⟨#[]⟩ : ByteArray)]) ?_ 1 _ rfl; (with_reducible repeat (first | refine blk_drewN ?_ _ | refine blk_drew ?_ | refine blk_alloc ?_ _)); refine blk_put (cs := #[.string (⟨#[]⟩ : ByteArray), .string (⟨#[]⟩ : ByteArray), .string (⟨#[]⟩ : ByteArray)]) ?_ 0 _ rfl; (with_reducible repeat (first | refine blk_drewN ?_ _ | refine blk_drew ?_ | refine blk_alloc ?_ _)); exact BK147.out⟩, ⟨by repeat (first | (with_reducible first | exact HB.out | apply below_alloc | apply pw_below_drewN | apply below_drew1 | refine below_set ?_ GE146.out | refine below_set ?_ GE147.out) | exact HB.out)⟩⟩
          · rw [if_neg c25] at H
            have Pc25 := Aside0.mk c25
            clear c25
            obtain rfl : t154 = r4 := congrArg (fun z_ => z_.2.2.2) (Option.some.inj H)
            clear H
            go_wp2_with (first | ((with_reducible refine gate_callee (f := 33) rfl ?_); refine goesP_ rfl Tryd.func33 (by kernel_rfl) rfl #[.bool false, .int .i64 5] rfl (by (try simp only [List.map_toArray, List.map_cons, List.map_nil]); first | done | rfl | (simp only [List.length_drop, List.length_take]; rfl)) ?_; (with_reducible refine (ver_fails.panics false 5 t154 Pc25.out _ A24.out).mono ?_); rintro e w' ⟨rfl, ⟨nd, rfl⟩⟩; refine ⟨_, rfl, ?_⟩))
            first | exact ⟨rfl, rfl, by repeat (first | (with_reducible first | exact HB.out | apply below_alloc | apply pw_below_drewN | apply below_drew1 | refine below_set ?_ GE146.out | refine below_set ?_ GE147.out) | exact HB.out)⟩ | exact And.intro rfl (And.intro rfl (by repeat (first | (with_reducible first | exact HB.out | apply below_alloc | apply pw_below_drewN | apply below_drew1 | refine below_set ?_ GE146.out | refine below_set ?_ GE147.out) | exact HB.out)))
      · replace c10 := Bool.eq_false_iff.mpr c10
        subst c10
        have H1 : (ver_cut.j0 k a0 (⟨#[48]⟩ : ByteArray) (⟨#[]⟩ : ByteArray) (⟨#[48]⟩ : ByteArray)) = some (r1, r2, r3, r4) := by rw [if_neg (show ¬ (false = true) by decide)] at H; exact H
        clear H
        have H := H1
        clear H1
        have H' := Aside0.mk H
        clear H
        go_wp2
        go_meet
        case rel => exact ⟨_, (a0), ((⟨#[48]⟩ : ByteArray)), (by first | rfl | (simp; done) | (simp [*]; done)), H', ⟨by first | omega | exact Nat.le_refl _⟩, ⟨by (with_reducible repeat (first | refine blk_drewN ?_ _ | refine blk_drew ?_ | refine blk_alloc ?_ _)); refine blk_far ?_ NB146_147.out _; (with_reducible repeat (first | refine blk_drewN ?_ _ | refine blk_drew ?_ | refine blk_alloc ?_ _)); refine blk_far ?_ NB146_147.out _; (with_reducible repeat (first | refine blk_drewN ?_ _ | refine blk_drew ?_ | refine blk_alloc ?_ _)); refine blk_far ?_ NB146_147.out _; (with_reducible repeat (first | refine blk_drewN ?_ _ | refine blk_drew ?_ | refine blk_alloc ?_ _)); exact BK146.out⟩, ⟨by (with_reducible repeat (first | refine blk_drewN ?_ _ | refine blk_drew ?_ | refine blk_alloc ?_ _)); refine blk_put (cs := #[.string (⟨#[48]⟩ : ByteArray), .string (⟨#[]⟩ : ByteArray), .string (⟨#[]⟩ : ByteArray)]) ?_ 2 _ rfl; (with_reducible repeat (first | refine blk_drewN ?_ _ | refine blk_drew ?_ | refine blk_alloc ?_ _)); refine blk_put (cs := #[.string (⟨#[48]⟩ : ByteArray), .string (⟨#[]⟩ : ByteArray), .string (⟨#[]⟩ : ByteArray)]) ?_ 1 _ rfl; (with_reducible repeat (first | refine blk_drewN ?_ _ | refine blk_drew ?_ | refine blk_alloc ?_ _)); refine blk_put (cs := #[.string (⟨#[]⟩ : ByteArray), .string (⟨#[]⟩ : ByteArray), .string (⟨#[]⟩ : ByteArray)]) ?_ 0 _ rfl; (with_reducible repeat (first | refine blk_drewN ?_ _ | refine blk_drew ?_ | refine blk_alloc ?_ _)); exact BK147.out⟩, ⟨by repeat (first | (with_reducible first | exact HB.out | apply below_alloc | apply pw_below_drewN | apply below_drew1 | refine below_set ?_ GE146.out | refine below_set ?_ GE147.out) | exact HB.out)⟩⟩
    case rest =>
      clear HC5
      try clear c1
      try clear c2
      try clear p2
      try clear c3
      try clear c8
      try clear c10
      try clear c11
      try clear c11b0
      try clear c11b1
      try clear c11b2
      try clear c12
      try clear c12b0
      try clear c12b1
      try clear c15
      try clear c17
      try clear c19
      try clear c21
      try clear c22
      try clear c25
      try clear c26
      try clear hcz18_0
      try clear hcz18_1
      try clear hcz18_2
      try clear hcz23_0
      try clear hcz23_1
      try clear hcz23_2
      try clear hcz27_0
      try clear hcz27_1
      try clear hcz27_2
      try clear hcz9_0
      try clear hcz9_1
      try clear hcz9_2
      try clear hfz18_0
      try clear hfz18_1
      try clear hfz18_2
      try clear hfz23_0
      try clear hfz23_1
      try clear hfz23_2
      try clear hfz27_0
      try clear hfz27_1
      try clear hfz27_2
      try clear hfz9_0
      try clear hfz9_1
      try clear hfz9_2
      obtain ⟨kq, x0_4, x148000_4, rfl, HA, HJ4, BK146, BK147, HB⟩ := hcut
      cases kq with
      | zero => exact absurd HA.out (by simp [ver_cut.j0])
      | succ kj4 =>
        have H := HA.out
        clear HA
        simp only [ver_cut.j0] at H
        replace H := Option.bind_eq_some_iff.mp H
        obtain ⟨⟨t155, t156, t157⟩, A280, H⟩ := H
        replace H : (if t157 = true then ((ver_runs.f kj4 t155).bind fun t159 => (if t159 = 0 then ((ver_runs.f kj4 t156).bind fun t158 => (if t158 = 0 then (some (x148000_4, t155, t156, 0)) else (some ((⟨#[]⟩ : ByteArray), (⟨#[]⟩ : ByteArray), (⟨#[]⟩ : ByteArray), t158)))) else (some ((⟨#[]⟩ : ByteArray), (⟨#[]⟩ : ByteArray), (⟨#[]⟩ : ByteArray), t159)))) else ((ver_runs.f kj4 x0_4).bind fun t161 => (if t161 = 0 then ((ver_runs.f kj4 (⟨#[48]⟩ : ByteArray)).bind fun t160 => (if t160 = 0 then (some (x148000_4, x0_4, (⟨#[48]⟩ : ByteArray), 0)) else (some ((⟨#[]⟩ : ByteArray), (⟨#[]⟩ : ByteArray), (⟨#[]⟩ : ByteArray), t160)))) else (some ((⟨#[]⟩ : ByteArray), (⟨#[]⟩ : ByteArray), (⟨#[]⟩ : ByteArray), t161))))) = some (r1, r2, r3, r4) := H
        have A28 := Aside0.mk A280
        clear A280
        by_cases c29 : t157 = true
        · subst c29
          have H1 : ((ver_runs.f kj4 t155).bind fun t159 => (if t159 = 0 then ((ver_runs.f kj4 t156).bind fun t158 => (if t158 = 0 then (some (x148000_4, t155, t156, 0)) else (some ((⟨#[]⟩ : ByteArray), (⟨#[]⟩ : ByteArray), (⟨#[]⟩ : ByteArray), t158)))) else (some ((⟨#[]⟩ : ByteArray), (⟨#[]⟩ : ByteArray), (⟨#[]⟩ : ByteArray), t159)))) = some (r1, r2, r3, r4) := by rw [if_pos rfl] at H; exact H
          clear H
          have H := H1
          clear H1
          replace H := Option.bind_eq_some_iff.mp H
          obtain ⟨t159, A300, H⟩ := H
          replace H : (if t159 = 0 then ((ver_runs.f kj4 t156).bind fun t158 => (if t158 = 0 then (some (x148000_4, t155, t156, 0)) else (some ((⟨#[]⟩ : ByteArray), (⟨#[]⟩ : ByteArray), (⟨#[]⟩ : ByteArray), t158)))) else (some ((⟨#[]⟩ : ByteArray), (⟨#[]⟩ : ByteArray), (⟨#[]⟩ : ByteArray), t159))) = some (r1, r2, r3, r4) := H
          have A30 := Aside0.mk A300
          clear A300
          by_cases c31 : t159 = 0
          · subst c31
            have H1 : ((ver_runs.f kj4 t156).bind fun t158 => (if t158 = 0 then (some (x148000_4, t155, t156, 0)) else (some ((⟨#[]⟩ : ByteArray), (⟨#[]⟩ : ByteArray), (⟨#[]⟩ : ByteArray), t158)))) = some (r1, r2, r3, r4) := by rw [if_pos rfl] at H; exact H
            clear H
            have H := H1
            clear H1
            replace H := Option.bind_eq_some_iff.mp H
            obtain ⟨t158, A320, H⟩ := H
            replace H : (if t158 = 0 then (some (x148000_4, t155, t156, 0)) else (some ((⟨#[]⟩ : ByteArray), (⟨#[]⟩ : ByteArray), (⟨#[]⟩ : ByteArray), t158))) = some (r1, r2, r3, r4) := H
            have A32 := Aside0.mk A320
            clear A320
            by_cases c33 : t158 = 0
            · subst c33
              have H1 : (some (x148000_4, t155, t156, 0)) = some (r1, r2, r3, r4) := by rw [if_pos rfl] at H; exact H
              clear H
              have H := H1
              clear H1
              exact absurd (congrArg (fun z_ => z_.2.2.2) (Option.some.inj H)).symm hne
            · rw [if_neg c33] at H
              have Pc33 := Aside0.mk c33
              clear c33
              obtain rfl : t158 = r4 := congrArg (fun z_ => z_.2.2.2) (Option.some.inj H)
              clear H
              go_wp2_with (first | ((with_reducible refine gate_callee (f := 25) rfl ?_); refine goesL_ (some 41) rfl rfl Tryd.func25 (by kernel_rfl) rfl #[.string x0_4, .string (⟨#[45]⟩ : ByteArray)] rfl (by (try simp only [List.map_toArray, List.map_cons, List.map_nil]); first | done | rfl | (simp only [List.length_drop, List.length_take]; rfl)) ?_; (with_reducible refine (strings_Cut.calls x0_4 (⟨#[45]⟩ : ByteArray) t155 t156 true _ A28.out).mono ?_); rintro e w' ⟨rfl, ⟨nd, rfl⟩⟩; refine ⟨_, rfl, ?_⟩; (try (rw [drewN_self wc]; generalize hq_ : World.drewN wc _ = wc; have n0_ : Aside0 (wc.heap[gb146]? = some (.cells #[.string (⟨#[]⟩ : ByteArray), .string (⟨#[]⟩ : ByteArray), .string (⟨#[]⟩ : ByteArray)] 44 (0, 0))) := ⟨by rw [← hq_]; exact (by (with_reducible repeat (first | refine blk_drewN ?_ _ | refine blk_drew ?_ | refine blk_alloc ?_ _)); exact BK146.out)⟩; have n1_ : Aside0 (wc.heap[gb147]? = some (.cells #[.string x148000_4, .string (⟨#[]⟩ : ByteArray), .string (⟨#[48]⟩ : ByteArray)] 44 (0, 0))) := ⟨by rw [← hq_]; exact (by (with_reducible repeat (first | refine blk_drewN ?_ _ | refine blk_drew ?_ | refine blk_alloc ?_ _)); exact BK147.out)⟩; have n2_ : Aside0 (Below w.heap.size w wc) := ⟨by rw [← hq_]; exact (by repeat (first | (with_reducible first | exact HB.out | apply below_alloc | apply pw_below_drewN | apply below_drew1 | refine below_set ?_ GE146.out | refine below_set ?_ GE147.out) | exact HB.out))⟩; clear BK146 BK147 HB hq_; have BK146 := n0_; have BK147 := n1_; have HB := n2_; clear n0_ n1_ n2_)); have hnb34 := NB147_146.out; have hnc34 := NB146_147.out; have hcz35_0 : wc.cell? ⟨gb147, 0, none⟩ = some (.string x148000_4) := (blk_cell BK147.out 0).trans rfl; have hcz35_1 : wc.cell? ⟨gb147, 1, none⟩ = some (.string (⟨#[]⟩ : ByteArray)) := (blk_cell BK147.out 1).trans rfl; have hcz35_2 : wc.cell? ⟨gb147, 2, none⟩ = some (.string (⟨#[48]⟩ : ByteArray)) := (blk_cell BK147.out 2).trans rfl; have hfz35_0 := blk_frozen BK147.out 0; have hfz35_1 := blk_frozen BK147.out 1; have hfz35_2 := blk_frozen BK147.out 2) | ((with_reducible refine gate_callee (f := 35) rfl ?_); refine goesL_ (some 53) rfl rfl Tryd.func35 (by kernel_rfl) rfl #[.string t155] rfl (by (try simp only [List.map_toArray, List.map_cons, List.map_nil]); first | done | rfl | (simp only [List.length_drop, List.length_take]; rfl)) ?_; (with_reducible refine (ver_runs.calls kj4 t155  _ A30.out).mono ?_); rintro e w' ⟨rfl, ⟨nd, rfl⟩⟩; refine ⟨_, rfl, ?_⟩) | ((with_reducible refine gate_callee (f := 35) rfl ?_); refine goesP_ rfl Tryd.func35 (by kernel_rfl) rfl #[.string t156] rfl (by (try simp only [List.map_toArray, List.map_cons, List.map_nil]); first | done | rfl | (simp only [List.length_drop, List.length_take]; rfl)) ?_; (with_reducible refine (ver_runs.panics kj4 t156 t158 Pc33.out _ A32.out).mono ?_); rintro e w' ⟨rfl, ⟨nd, rfl⟩⟩; refine ⟨_, rfl, ?_⟩))
              first | exact ⟨rfl, rfl, by repeat (first | (with_reducible first | exact HB.out | apply below_alloc | apply pw_below_drewN | apply below_drew1 | refine below_set ?_ GE146.out | refine below_set ?_ GE147.out) | exact HB.out)⟩ | exact And.intro rfl (And.intro rfl (by repeat (first | (with_reducible first | exact HB.out | apply below_alloc | apply pw_below_drewN | apply below_drew1 | refine below_set ?_ GE146.out | refine below_set ?_ GE147.out) | exact HB.out)))
          · rw [if_neg c31] at H
            have Pc31 := Aside0.mk c31
            clear c31
            obtain rfl : t159 = r4 := congrArg (fun z_ => z_.2.2.2) (Option.some.inj H)
            clear H
            go_wp2_with (first | ((with_reducible refine gate_callee (f := 25) rfl ?_); refine goesL_ (some 41) rfl rfl Tryd.func25 (by kernel_rfl) rfl #[.string x0_4, .string (⟨#[45]⟩ : ByteArray)] rfl (by (try simp only [List.map_toArray, List.map_cons, List.map_nil]); first | done | rfl | (simp only [List.length_drop, List.length_take]; rfl)) ?_; (with_reducible refine (strings_Cut.calls x0_4 (⟨#[45]⟩ : ByteArray) t155 t156 true _ A28.out).mono ?_); rintro e w' ⟨rfl, ⟨nd, rfl⟩⟩; refine ⟨_, rfl, ?_⟩; (try (rw [drewN_self wc]; generalize hq_ : World.drewN wc _ = wc; have n0_ : Aside0 (wc.heap[gb146]? = some (.cells #[.string (⟨#[]⟩ : ByteArray), .string (⟨#[]⟩ : ByteArray), .string (⟨#[]⟩ : ByteArray)] 44 (0, 0))) := ⟨by rw [← hq_]; exact (by (with_reducible repeat (first | refine blk_drewN ?_ _ | refine blk_drew ?_ | refine blk_alloc ?_ _)); exact BK146.out)⟩; have n1_ : Aside0 (wc.heap[gb147]? = some (.cells #[.string x148000_4, .string (⟨#[]⟩ : ByteArray), .string (⟨#[48]⟩ : ByteArray)] 44 (0, 0))) := ⟨by rw [← hq_]; exact (by (with_reducible repeat (first | refine blk_drewN ?_ _ | refine blk_drew ?_ | refine blk_alloc ?_ _)); exact BK147.out)⟩; have n2_ : Aside0 (Below w.heap.size w wc) := ⟨by rw [← hq_]; exact (by repeat (first | (with_reducible first | exact HB.out | apply below_alloc | apply pw_below_drewN | apply below_drew1 | refine below_set ?_ GE146.out | refine below_set ?_ GE147.out) | exact HB.out))⟩; clear BK146 BK147 HB hq_; have BK146 := n0_; have BK147 := n1_; have HB := n2_; clear n0_ n1_ n2_)); have hnb36 := NB147_146.out; have hnc36 := NB146_147.out; have hcz37_0 : wc.cell? ⟨gb147, 0, none⟩ = some (.string x148000_4) := (blk_cell BK147.out 0).trans rfl; have hcz37_1 : wc.cell? ⟨gb147, 1, none⟩ = some (.string (⟨#[]⟩ : ByteArray)) := (blk_cell BK147.out 1).trans rfl; have hcz37_2 : wc.cell? ⟨gb147, 2, none⟩ = some (.string (⟨#[48]⟩ : ByteArray)) := (blk_cell BK147.out 2).trans rfl; have hfz37_0 := blk_frozen BK147.out 0; have hfz37_1 := blk_frozen BK147.out 1; have hfz37_2 := blk_frozen BK147.out 2) | ((with_reducible refine gate_callee (f := 35) rfl ?_); refine goesP_ rfl Tryd.func35 (by kernel_rfl) rfl #[.string t155] rfl (by (try simp only [List.map_toArray, List.map_cons, List.map_nil]); first | done | rfl | (simp only [List.length_drop, List.length_take]; rfl)) ?_; (with_reducible refine (ver_runs.panics kj4 t155 t159 Pc31.out _ A30.out).mono ?_); rintro e w' ⟨rfl, ⟨nd, rfl⟩⟩; refine ⟨_, rfl, ?_⟩))
            first | exact ⟨rfl, rfl, by repeat (first | (with_reducible first | exact HB.out | apply below_alloc | apply pw_below_drewN | apply below_drew1 | refine below_set ?_ GE146.out | refine below_set ?_ GE147.out) | exact HB.out)⟩ | exact And.intro rfl (And.intro rfl (by repeat (first | (with_reducible first | exact HB.out | apply below_alloc | apply pw_below_drewN | apply below_drew1 | refine below_set ?_ GE146.out | refine below_set ?_ GE147.out) | exact HB.out)))
        · replace c29 := Bool.eq_false_iff.mpr c29
          subst c29
          have H1 : ((ver_runs.f kj4 x0_4).bind fun t161 => (if t161 = 0 then ((ver_runs.f kj4 (⟨#[48]⟩ : ByteArray)).bind fun t160 => (if t160 = 0 then (some (x148000_4, x0_4, (⟨#[48]⟩ : ByteArray), 0)) else (some ((⟨#[]⟩ : ByteArray), (⟨#[]⟩ : ByteArray), (⟨#[]⟩ : ByteArray), t160)))) else (some ((⟨#[]⟩ : ByteArray), (⟨#[]⟩ : ByteArray), (⟨#[]⟩ : ByteArray), t161)))) = some (r1, r2, r3, r4) := by rw [if_neg (show ¬ (false = true) by decide)] at H; exact H
          clear H
          have H := H1
          clear H1
          replace H := Option.bind_eq_some_iff.mp H
          obtain ⟨t161, A380, H⟩ := H
          replace H : (if t161 = 0 then ((ver_runs.f kj4 (⟨#[48]⟩ : ByteArray)).bind fun t160 => (if t160 = 0 then (some (x148000_4, x0_4, (⟨#[48]⟩ : ByteArray), 0)) else (some ((⟨#[]⟩ : ByteArray), (⟨#[]⟩ : ByteArray), (⟨#[]⟩ : ByteArray), t160)))) else (some ((⟨#[]⟩ : ByteArray), (⟨#[]⟩ : ByteArray), (⟨#[]⟩ : ByteArray), t161))) = some (r1, r2, r3, r4) := H
          have A38 := Aside0.mk A380
          clear A380
          by_cases c39 : t161 = 0
          · subst c39
            have H1 : ((ver_runs.f kj4 (⟨#[48]⟩ : ByteArray)).bind fun t160 => (if t160 = 0 then (some (x148000_4, x0_4, (⟨#[48]⟩ : ByteArray), 0)) else (some ((⟨#[]⟩ : ByteArray), (⟨#[]⟩ : ByteArray), (⟨#[]⟩ : ByteArray), t160)))) = some (r1, r2, r3, r4) := by rw [if_pos rfl] at H; exact H
            clear H
            have H := H1
            clear H1
            replace H := Option.bind_eq_some_iff.mp H
            obtain ⟨t160, A400, H⟩ := H
            replace H : (if t160 = 0 then (some (x148000_4, x0_4, (⟨#[48]⟩ : ByteArray), 0)) else (some ((⟨#[]⟩ : ByteArray), (⟨#[]⟩ : ByteArray), (⟨#[]⟩ : ByteArray), t160))) = some (r1, r2, r3, r4) := H
            have A40 := Aside0.mk A400
            clear A400
            by_cases c41 : t160 = 0
            · subst c41
              have H1 : (some (x148000_4, x0_4, (⟨#[48]⟩ : ByteArray), 0)) = some (r1, r2, r3, r4) := by rw [if_pos rfl] at H; exact H
              clear H
              have H := H1
              clear H1
              exact absurd (congrArg (fun z_ => z_.2.2.2) (Option.some.inj H)).symm hne
            · rw [if_neg c41] at H
              have Pc41 := Aside0.mk c41
              clear c41
              obtain rfl : t160 = r4 := congrArg (fun z_ => z_.2.2.2) (Option.some.inj H)
              clear H
              go_wp2_with (first | ((with_reducible refine gate_callee (f := 25) rfl ?_); refine goesL_ (some 41) rfl rfl Tryd.func25 (by kernel_rfl) rfl #[.string x0_4, .string (⟨#[45]⟩ : ByteArray)] rfl (by (try simp only [List.map_toArray, List.map_cons, List.map_nil]); first | done | rfl | (simp only [List.length_drop, List.length_take]; rfl)) ?_; (with_reducible refine (strings_Cut.calls x0_4 (⟨#[45]⟩ : ByteArray) t155 t156 false _ A28.out).mono ?_); rintro e w' ⟨rfl, ⟨nd, rfl⟩⟩; refine ⟨_, rfl, ?_⟩; (try (rw [drewN_self wc]; generalize hq_ : World.drewN wc _ = wc; have n0_ : Aside0 (wc.heap[gb146]? = some (.cells #[.string (⟨#[]⟩ : ByteArray), .string (⟨#[]⟩ : ByteArray), .string (⟨#[]⟩ : ByteArray)] 44 (0, 0))) := ⟨by rw [← hq_]; exact (by (with_reducible repeat (first | refine blk_drewN ?_ _ | refine blk_drew ?_ | refine blk_alloc ?_ _)); exact BK146.out)⟩; have n1_ : Aside0 (wc.heap[gb147]? = some (.cells #[.string x148000_4, .string (⟨#[]⟩ : ByteArray), .string (⟨#[48]⟩ : ByteArray)] 44 (0, 0))) := ⟨by rw [← hq_]; exact (by (with_reducible repeat (first | refine blk_drewN ?_ _ | refine blk_drew ?_ | refine blk_alloc ?_ _)); exact BK147.out)⟩; have n2_ : Aside0 (Below w.heap.size w wc) := ⟨by rw [← hq_]; exact (by repeat (first | (with_reducible first | exact HB.out | apply below_alloc | apply pw_below_drewN | apply below_drew1 | refine below_set ?_ GE146.out | refine below_set ?_ GE147.out) | exact HB.out))⟩; clear BK146 BK147 HB hq_; have BK146 := n0_; have BK147 := n1_; have HB := n2_; clear n0_ n1_ n2_)); have hnb42 := NB147_146.out; have hnc42 := NB146_147.out; have hcz43_0 : wc.cell? ⟨gb147, 0, none⟩ = some (.string x148000_4) := (blk_cell BK147.out 0).trans rfl; have hcz43_1 : wc.cell? ⟨gb147, 1, none⟩ = some (.string (⟨#[]⟩ : ByteArray)) := (blk_cell BK147.out 1).trans rfl; have hcz43_2 : wc.cell? ⟨gb147, 2, none⟩ = some (.string (⟨#[48]⟩ : ByteArray)) := (blk_cell BK147.out 2).trans rfl; have hfz43_0 := blk_frozen BK147.out 0; have hfz43_1 := blk_frozen BK147.out 1; have hfz43_2 := blk_frozen BK147.out 2) | ((with_reducible refine gate_callee (f := 35) rfl ?_); refine goesL_ (some 53) rfl rfl Tryd.func35 (by kernel_rfl) rfl #[.string x0_4] rfl (by (try simp only [List.map_toArray, List.map_cons, List.map_nil]); first | done | rfl | (simp only [List.length_drop, List.length_take]; rfl)) ?_; (with_reducible refine (ver_runs.calls kj4 x0_4  _ A38.out).mono ?_); rintro e w' ⟨rfl, ⟨nd, rfl⟩⟩; refine ⟨_, rfl, ?_⟩) | ((with_reducible refine gate_callee (f := 35) rfl ?_); refine goesP_ rfl Tryd.func35 (by kernel_rfl) rfl #[.string (⟨#[48]⟩ : ByteArray)] rfl (by (try simp only [List.map_toArray, List.map_cons, List.map_nil]); first | done | rfl | (simp only [List.length_drop, List.length_take]; rfl)) ?_; (with_reducible refine (ver_runs.panics kj4 (⟨#[48]⟩ : ByteArray) t160 Pc41.out _ A40.out).mono ?_); rintro e w' ⟨rfl, ⟨nd, rfl⟩⟩; refine ⟨_, rfl, ?_⟩))
              first | exact ⟨rfl, rfl, by repeat (first | (with_reducible first | exact HB.out | apply below_alloc | apply pw_below_drewN | apply below_drew1 | refine below_set ?_ GE146.out | refine below_set ?_ GE147.out) | exact HB.out)⟩ | exact And.intro rfl (And.intro rfl (by repeat (first | (with_reducible first | exact HB.out | apply below_alloc | apply pw_below_drewN | apply below_drew1 | refine below_set ?_ GE146.out | refine below_set ?_ GE147.out) | exact HB.out)))
          · rw [if_neg c39] at H
            have Pc39 := Aside0.mk c39
            clear c39
            obtain rfl : t161 = r4 := congrArg (fun z_ => z_.2.2.2) (Option.some.inj H)
            clear H
            go_wp2_with (first | ((with_reducible refine gate_callee (f := 25) rfl ?_); refine goesL_ (some 41) rfl rfl Tryd.func25 (by kernel_rfl) rfl #[.string x0_4, .string (⟨#[45]⟩ : ByteArray)] rfl (by (try simp only [List.map_toArray, List.map_cons, List.map_nil]); first | done | rfl | (simp only [List.length_drop, List.length_take]; rfl)) ?_; (with_reducible refine (strings_Cut.calls x0_4 (⟨#[45]⟩ : ByteArray) t155 t156 false _ A28.out).mono ?_); rintro e w' ⟨rfl, ⟨nd, rfl⟩⟩; refine ⟨_, rfl, ?_⟩; (try (rw [drewN_self wc]; generalize hq_ : World.drewN wc _ = wc; have n0_ : Aside0 (wc.heap[gb146]? = some (.cells #[.string (⟨#[]⟩ : ByteArray), .string (⟨#[]⟩ : ByteArray), .string (⟨#[]⟩ : ByteArray)] 44 (0, 0))) := ⟨by rw [← hq_]; exact (by (with_reducible repeat (first | refine blk_drewN ?_ _ | refine blk_drew ?_ | refine blk_alloc ?_ _)); exact BK146.out)⟩; have n1_ : Aside0 (wc.heap[gb147]? = some (.cells #[.string x148000_4, .string (⟨#[]⟩ : ByteArray), .string (⟨#[48]⟩ : ByteArray)] 44 (0, 0))) := ⟨by rw [← hq_]; exact (by (with_reducible repeat (first | refine blk_drewN ?_ _ | refine blk_drew ?_ | refine blk_alloc ?_ _)); exact BK147.out)⟩; have n2_ : Aside0 (Below w.heap.size w wc) := ⟨by rw [← hq_]; exact (by repeat (first | (with_reducible first | exact HB.out | apply below_alloc | apply pw_below_drewN | apply below_drew1 | refine below_set ?_ GE146.out | refine below_set ?_ GE147.out) | exact HB.out))⟩; clear BK146 BK147 HB hq_; have BK146 := n0_; have BK147 := n1_; have HB := n2_; clear n0_ n1_ n2_)); have hnb44 := NB147_146.out; have hnc44 := NB146_147.out; have hcz45_0 : wc.cell? ⟨gb147, 0, none⟩ = some (.string x148000_4) := (blk_cell BK147.out 0).trans rfl; have hcz45_1 : wc.cell? ⟨gb147, 1, none⟩ = some (.string (⟨#[]⟩ : ByteArray)) := (blk_cell BK147.out 1).trans rfl; have hcz45_2 : wc.cell? ⟨gb147, 2, none⟩ = some (.string (⟨#[48]⟩ : ByteArray)) := (blk_cell BK147.out 2).trans rfl; have hfz45_0 := blk_frozen BK147.out 0; have hfz45_1 := blk_frozen BK147.out 1; have hfz45_2 := blk_frozen BK147.out 2) | ((with_reducible refine gate_callee (f := 35) rfl ?_); refine goesP_ rfl Tryd.func35 (by kernel_rfl) rfl #[.string x0_4] rfl (by (try simp only [List.map_toArray, List.map_cons, List.map_nil]); first | done | rfl | (simp only [List.length_drop, List.length_take]; rfl)) ?_; (with_reducible refine (ver_runs.panics kj4 x0_4 t161 Pc39.out _ A38.out).mono ?_); rintro e w' ⟨rfl, ⟨nd, rfl⟩⟩; refine ⟨_, rfl, ?_⟩))
            first | exact ⟨rfl, rfl, by repeat (first | (with_reducible first | exact HB.out | apply below_alloc | apply pw_below_drewN | apply below_drew1 | refine below_set ?_ GE146.out | refine below_set ?_ GE147.out) | exact HB.out)⟩ | exact And.intro rfl (And.intro rfl (by repeat (first | (with_reducible first | exact HB.out | apply below_alloc | apply pw_below_drewN | apply below_drew1 | refine below_set ?_ GE146.out | refine below_set ?_ GE147.out) | exact HB.out)))
  · rw [if_neg c3] at H
    have Pc3 := Aside0.mk c3
    clear c3
    obtain rfl : t162 = r4 := congrArg (fun z_ => z_.2.2.2) (Option.some.inj H)
    clear H
    go_enter Tryd.func19, Tryd.ntmps19
    go_wp2_with (first | ((with_reducible refine gate_dst (N := 2) rfl ?_); (try (refine gate_guard (by rfl) ?_; dsimp only)); refine box_event ?hg (N := 2) ?hd (cs := #[.string (⟨#[]⟩ : ByteArray), .string (⟨#[]⟩ : ByteArray), .string (⟨#[]⟩ : ByteArray)]) (t := 44) ?hr ?_; (case hd => rfl); (case hg => rfl); (case hr => first | (go_simp; done) | (go_simp; rfl)); intro gb146 hg w46 hbox hb; have n0_ := Aside0.mk (below_step (by repeat (first | (with_reducible first | exact HB.out | apply below_alloc | apply pw_below_drewN | apply below_drew1) | exact HB.out)) hb); have n1_ := Aside0.mk (hbox); have n2_ := Aside0.mk ((by rw [hg]; exact (below_size (by repeat (first | (with_reducible first | exact HB.out | apply below_alloc | apply pw_below_drewN | apply below_drew1) | exact HB.out))) : w.heap.size ≤ gb146)); have n3_ := Aside0.mk ((by rw [hg]; exact (below_size (by repeat (first | (with_reducible first | exact HB.out | apply below_alloc | apply pw_below_drewN | apply below_drew1) | exact HB.out))) : w.heap.size ≤ gb146)); clear HB; have HB := n0_; have BK146 := n1_; have GW146 := n2_; have GE146 := n3_; clear n0_ n1_ n2_ n3_; clear hb hbox hg) | ((with_reducible refine gate_callee (f := 33) rfl ?_); refine goesP_ rfl Tryd.func33 (by kernel_rfl) rfl #[.bool (decide ((a0.size : Int) ≤ 40)), .int .i64 4] rfl (by (try simp only [List.map_toArray, List.map_cons, List.map_nil]); first | done | rfl | (simp only [List.length_drop, List.length_take]; rfl)) ?_; (with_reducible refine (ver_fails.panics (decide ((a0.size : Int) ≤ 40)) 4 t162 Pc3.out _ A2.out).mono ?_); rintro e w' ⟨rfl, ⟨nd, rfl⟩⟩; refine ⟨_, rfl, ?_⟩))
    first | exact ⟨rfl, rfl, by repeat (first | (with_reducible first | exact HB.out | apply below_alloc | apply pw_below_drewN | apply below_drew1 | refine below_set ?_ GE146.out) | exact HB.out)⟩ | exact And.intro rfl (And.intro rfl (by repeat (first | (with_reducible first | exact HB.out | apply below_alloc | apply pw_below_drewN | apply below_drew1 | refine below_set ?_ GE146.out) | exact HB.out)))
end Go.Proofs.YtpijehmhgjkkoaaDoor.Q
namespace Go.Proofs.YtpijehmhgjkkoaaDoor.Q
open Go.RowKit Go.Proofs.YtpijehmhgjkkoaaDoorW.PrintWords Go.Proofs.YtpijehmhgjkkoaaDoorW.PrintLast Go.Proofs.YtpijehmhgjkkoaaDoorW.PrintMore
attribute [local go_sem] max2_int min2_int max_two min_two max_three min_three max_four min_four   -- for this text's walks alone
set_option linter.unusedVariables false
set_option linter.unusedSimpArgs false
/-! ### ver_Check: function 9 -/
def ver_Check.f (k : Nat) (a0 : ByteArray) : Option (Int) := (ver_cut.f k a0).bind fun bt164 => (if bt164.2.2.2 = 0 then (some 0) else (some bt164.2.2.2))
theorem ver_Check.mono : ∀ a0 k, LeO (ver_Check.f k a0) (ver_Check.f (k + 1) a0) := by
  intro a0 k
  unfold ver_Check.f
  repeat' first
      | (with_reducible exact ver_cut.mono _ _)
      | (with_reducible exact LeO.refl _)
      | (with_reducible exact LeO.none _)
      | (with_reducible refine LeO.ite ?_ ?_)
      | (with_reducible refine LeO.bind ?_ (fun _ => ?_))
      | exact ver_cut.mono _ _
      | exact LeO.none _
      | refine LeO.ite ?_ ?_
      | refine LeO.bind ?_ (fun _ => ?_)
set_option maxHeartbeats 8000000 in
set_option maxRecDepth 100000 in
theorem ver_Check.calls (k : Nat) (a0 : ByteArray) (r : Int) (w : World) (h : ver_Check.f k a0 = some r) :
    Calls Tryd.prog 9 #[.string a0] w fun e w' => e = .returned (.int .i64 r) ∧ Below w.heap.size w w' := by
  have HB := Aside0.mk (Below.refl w.heap.size w)
  have H : ((ver_cut.f k a0).bind fun bt164 => (if bt164.2.2.2 = 0 then (some 0) else (some bt164.2.2.2))) = some r := h
  clear h
  replace H := Option.bind_eq_some_iff.mp H
  obtain ⟨⟨t164, t165, t166, t167⟩, A20, H⟩ := H
  replace H : (if t167 = 0 then (some 0) else (some t167)) = some r := H
  have A2 := Aside0.mk A20
  clear A20
  by_cases c3 : t167 = 0
  · subst c3
    have H1 : (some 0) = some r := by rw [if_pos rfl] at H; exact H
    clear H
    have H := H1
    clear H1
    obtain rfl := Option.some.inj H
    let BP_ : Exit → Act → World → Prop := bodyPost Tryd.prog Tryd.f9 (fun _ _ => True)
    go_enter_defers Tryd.func9, Tryd.ntmps9
    go_wp2_with (first | ((with_reducible refine gate_dst (N := 2) rfl ?_); refine box_event ?hg (N := 2) ?hd (cs := #[.int .i64 0]) (t := 23) ?hr ?_; (case hd => rfl); (case hg => rfl); (case hr => first | (go_simp; done) | (go_simp; rfl)); intro gb163 hg w4 hbox hb; have n0_ := Aside0.mk (below_step (by repeat (first | (with_reducible first | exact HB.out | apply below_alloc | apply pw_below_drewN | apply below_drew1) | exact HB.out)) hb); have n1_ := Aside0.mk (hbox); have n2_ := Aside0.mk ((by rw [hg]; exact (below_size (by repeat (first | (with_reducible first | exact HB.out | apply below_alloc | apply pw_below_drewN | apply below_drew1) | exact HB.out))) : w.heap.size ≤ gb163)); have n3_ := Aside0.mk ((by rw [hg]; exact (below_size (by repeat (first | (with_reducible first | exact HB.out | apply below_alloc | apply pw_below_drewN | apply below_drew1) | exact HB.out))) : w.heap.size ≤ gb163)); clear HB; have HB := n0_; have BK163 := n1_; have GW163 := n2_; have GE163 := n3_; clear n0_ n1_ n2_ n3_; clear hb hbox hg) | ((with_reducible refine gate_callee (f := 19) rfl ?_); refine goesL_ (some 4) rfl rfl Tryd.func19 (by kernel_rfl) rfl #[.string a0] rfl (by (try simp only [List.map_toArray, List.map_cons, List.map_nil]); first | done | rfl | (simp only [List.length_drop, List.length_take]; rfl)) ?_; (with_reducible refine (ver_cut.calls k a0 t164 t165 t166 _ A2.out).mono ?_); rintro e w5 ⟨rfl, hb⟩; refine ⟨_, rfl, ?_⟩; have n0_ := Aside0.mk (blk_below (g := gb163) (o := .cells #[.int .i64 0] 23 (0, 0)) (by (with_reducible repeat (first | refine blk_drewN ?_ _ | refine blk_drew ?_ | refine blk_alloc ?_ _)); exact BK163.out) hb); have n1_ := Aside0.mk (below_step (by repeat (first | (with_reducible first | exact HB.out | apply below_alloc | apply pw_below_drewN | apply below_drew1 | refine below_set ?_ GE163.out) | exact HB.out)) hb); clear BK163; clear HB; have BK163 := n0_; have HB := n1_; clear n0_ n1_; (try clear hb); (try clear hb2); (try clear hk); (try clear hi); have hcz6_0 : w5.cell? ⟨gb163, 0, none⟩ = some (.int .i64 0) := (blk_cell BK163.out 0).trans rfl; have hfz6_0 := blk_frozen BK163.out 0))
    refine leaves_cons (f := 18) (args := #[.pointer (some ⟨gb163, 0, none⟩)]) (by simp) (by simp [go_sem]) ?_
    refine (ver_catch.idle gb163 _).mono ?_
    rintro e u' w'' ⟨rfl, rfl, rfl⟩
    refine leaves_nil (resultsS_single rfl (.one gb163 23 (.int .i64 0) (0, 0) _ rfl (by (with_reducible repeat (first | refine blk_drewN ?_ _ | refine blk_drew ?_ | refine blk_alloc ?_ _)); refine blk_put (cs := #[.int .i64 0]) ?_ 0 _ rfl; (with_reducible repeat (first | refine blk_drewN ?_ _ | refine blk_drew ?_ | refine blk_alloc ?_ _)); exact BK163.out) Tryd.underlying23 rfl .nil)) ?_
    exact ⟨by first | rfl | (simp [errW_none, errW_some] <;> rfl) | (simp [*, errW_none, errW_some] <;> rfl), by repeat (first | (with_reducible first | exact HB.out | apply below_alloc | apply pw_below_drewN | apply below_drew1 | refine below_set ?_ GE163.out) | exact HB.out)⟩
  · rw [if_neg c3] at H
    have Pc3 := Aside0.mk c3
    clear c3
    obtain rfl := Option.some.inj H
    let BP_ : Exit → Act → World → Prop := bodyPost Tryd.prog Tryd.f9 (fun _ _ => True)
    go_enter_defers Tryd.func9, Tryd.ntmps9
    go_wp2_with (first | ((with_reducible refine gate_dst (N := 2) rfl ?_); refine box_event ?hg (N := 2) ?hd (cs := #[.int .i64 0]) (t := 23) ?hr ?_; (case hd => rfl); (case hg => rfl); (case hr => first | (go_simp; done) | (go_simp; rfl)); intro gb163 hg w7 hbox hb; have n0_ := Aside0.mk (below_step (by repeat (first | (with_reducible first | exact HB.out | apply below_alloc | apply pw_below_drewN | apply below_drew1) | exact HB.out)) hb); have n1_ := Aside0.mk (hbox); have n2_ := Aside0.mk ((by rw [hg]; exact (below_size (by repeat (first | (with_reducible first | exact HB.out | apply below_alloc | apply pw_below_drewN | apply below_drew1) | exact HB.out))) : w.heap.size ≤ gb163)); have n3_ := Aside0.mk ((by rw [hg]; exact (below_size (by repeat (first | (with_reducible first | exact HB.out | apply below_alloc | apply pw_below_drewN | apply below_drew1) | exact HB.out))) : w.heap.size ≤ gb163)); clear HB; have HB := n0_; have BK163 := n1_; have GW163 := n2_; have GE163 := n3_; clear n0_ n1_ n2_ n3_; clear hb hbox hg) | ((with_reducible refine gate_callee (f := 19) rfl ?_); refine goesP_ rfl Tryd.func19 (by kernel_rfl) rfl #[.string a0] rfl (by (try simp only [List.map_toArray, List.map_cons, List.map_nil]); first | done | rfl | (simp only [List.length_drop, List.length_take]; rfl)) ?_; (with_reducible refine (ver_cut.panics k a0 t164 t165 t166 t167 Pc3.out _ A2.out).mono ?_); rintro e w8 ⟨rfl, hb⟩; refine ⟨_, rfl, ?_⟩; have n0_ := Aside0.mk (blk_below (g := gb163) (o := .cells #[.int .i64 0] 23 (0, 0)) (by (with_reducible repeat (first | refine blk_drewN ?_ _ | refine blk_drew ?_ | refine blk_alloc ?_ _)); exact BK163.out) hb); have n1_ := Aside0.mk (below_step (by repeat (first | (with_reducible first | exact HB.out | apply below_alloc | apply pw_below_drewN | apply below_drew1 | refine below_set ?_ GE163.out) | exact HB.out)) hb); clear BK163; clear HB; have BK163 := n0_; have HB := n1_; clear n0_ n1_; (try clear hb); (try clear hb2); (try clear hk); (try clear hi)))
    refine leaves_cons (f := 18) (args := #[.pointer (some ⟨gb163, 0, none⟩)]) (by simp) (by simp [go_sem]) ?_
    refine (ver_catch.hit gb163 _ t167 _ (by (with_reducible repeat (first | refine blk_drewN ?_ _ | refine blk_drew ?_ | refine blk_alloc ?_ _)); exact BK163.out)).mono ?_
    rintro e u' w'' ⟨rfl, rfl, rfl⟩
    refine leaves_nil (resultsS_single rfl (.one gb163 23 (.int .i64 t167) (0, 0) _ rfl (by (with_reducible repeat (first | refine blk_drewN ?_ _ | refine blk_drew ?_ | refine blk_alloc ?_ _)); refine blk_put (cs := #[.int .i64 0]) ?_ 0 _ rfl; (with_reducible repeat (first | refine blk_drewN ?_ _ | refine blk_drew ?_ | refine blk_alloc ?_ _)); exact BK163.out) Tryd.underlying23 rfl .nil)) ?_
    exact ⟨by first | rfl | (simp [errW_none, errW_some] <;> rfl) | (simp [*, errW_none, errW_some] <;> rfl), by repeat (first | (with_reducible first | exact HB.out | apply below_alloc | apply pw_below_drewN | apply below_drew1 | refine below_set ?_ GE163.out) | exact HB.out)⟩
end Go.Proofs.YtpijehmhgjkkoaaDoor.Q
namespace Go.Proofs.YtpijehmhgjkkoaaDoor.Q
open Go.RowKit Go.Proofs.YtpijehmhgjkkoaaDoorW.PrintWords Go.Proofs.YtpijehmhgjkkoaaDoorW.PrintLast Go.Proofs.YtpijehmhgjkkoaaDoorW.PrintMore
attribute [local go_sem] max2_int min2_int max_two min_two max_three min_three max_four min_four   -- for this text's walks alone
set_option linter.unusedVariables false
set_option linter.unusedSimpArgs false

-- HANDPART strings_TrimLeft.lean
/-! ### strings_TrimLeft: by hand -/
/-- TrimLeft at an ASCII cutset (none elsewhere). -/
def strings_TrimLeft.f (a0 a1 : ByteArray) : Option ByteArray := if a1.size < 4294967281 ∧ a1.data.toList.all (fun b => decide (b.toNat < 128)) = true then some ⟨(Lib.trimLeftS a0.data.toList a1.data.toList).toArray⟩ else none
theorem strings_TrimLeft.calls (a0 a1 : ByteArray) (r : ByteArray) (w : World) (h : strings_TrimLeft.f a0 a1 = some r) :
    Calls Tryd.prog 36 #[.string a0, .string a1] w fun e w' => e = .returned (.string r) ∧ Below w.heap.size w w' := by
  unfold strings_TrimLeft.f at h
  split at h
  · rename_i h1
    obtain rfl := Option.some.inj h
    exact Any.strings_TrimLeft_laid Tryd.lays161 (by kernel_rfl) a0 a1 w h1.1 (ascii_of_all h1.2)
  · cases h
end Go.Proofs.YtpijehmhgjkkoaaDoor.Q
namespace Go.Proofs.YtpijehmhgjkkoaaDoor.Q
open Go.RowKit Go.Proofs.YtpijehmhgjkkoaaDoorW.PrintWords Go.Proofs.YtpijehmhgjkkoaaDoorW.PrintLast Go.Proofs.YtpijehmhgjkkoaaDoorW.PrintMore
attribute [local go_sem] max2_int min2_int max_two min_two max_three min_three max_four min_four   -- for this text's walks alone
set_option linter.unusedVariables false
set_option linter.unusedSimpArgs false
/-! ### ver_bare: function 20 -/
def ver_bare.f (a0 : ByteArray) : Option (ByteArray) := (strings_TrimLeft.f a0 (⟨#[48]⟩ : ByteArray)).bind fun t168 => (if t168.toList = ([] : List UInt8) then (some (⟨#[48]⟩ : ByteArray)) else (some t168))
set_option maxHeartbeats 8000000 in
set_option maxRecDepth 100000 in
theorem ver_bare.calls (a0 : ByteArray) (r : ByteArray) (w : World) (h : ver_bare.f a0 = some r) :
    Calls Tryd.prog 20 #[.string a0] w fun e w' => e = .returned (.string r) ∧ Below w.heap.size w w' := by
  have HB := Aside0.mk (Below.refl w.heap.size w)
  have H : ((strings_TrimLeft.f a0 (⟨#[48]⟩ : ByteArray)).bind fun t168 => (if t168.toList = ([] : List UInt8) then (some (⟨#[48]⟩ : ByteArray)) else (some t168))) = some r := h
  clear h
  replace H := Option.bind_eq_some_iff.mp H
  obtain ⟨t168, A20, H⟩ := H
  replace H : (if t168.toList = ([] : List UInt8) then (some (⟨#[48]⟩ : ByteArray)) else (some t168)) = some r := H
  have A2 := Aside0.mk A20
  clear A20
  by_cases c3 : t168.toList = ([] : List UInt8)
  · rw [if_pos c3] at H
    have c3b0 : (t168.toList == ([] : List UInt8)) = true := beq_iff_eq.mpr c3
    have c3b1 : (t168.toList != ([] : List UInt8)) = false := bne_eq_false_iff_eq.mpr c3
    have c3b2 : t168.toList.isEmpty = true := List.isEmpty_iff.mpr c3
    clear c3
    obtain rfl := Option.some.inj H
    go_enter Tryd.func20, Tryd.ntmps20
    go_wp2_with (first | ((with_reducible refine gate_callee (f := 36) rfl ?_); refine goesL_ (some 5) rfl rfl Tryd.func36 (by kernel_rfl) rfl #[.string a0, .string (⟨#[48]⟩ : ByteArray)] rfl (by (try simp only [List.map_toArray, List.map_cons, List.map_nil]); first | done | rfl | (simp only [List.length_drop, List.length_take]; rfl)) ?_; (with_reducible refine (strings_TrimLeft.calls a0 (⟨#[48]⟩ : ByteArray) t168 _ A2.out).mono ?_); rintro e w4 ⟨rfl, hb⟩; refine ⟨_, rfl, ?_⟩; have n0_ := Aside0.mk (below_step (by repeat (first | (with_reducible first | exact HB.out | apply below_alloc | apply pw_below_drewN | apply below_drew1) | exact HB.out)) hb); clear HB; have HB := n0_; clear n0_; (try clear hb); (try clear hb2); (try clear hk); (try clear hi)))
    go_ret
    exact ⟨by first | rfl | (simp [errW_none, errW_some] <;> rfl) | (simp [*, errW_none, errW_some] <;> rfl), by repeat (first | (with_reducible first | exact HB.out | apply below_alloc | apply pw_below_drewN | apply below_drew1) | exact HB.out)⟩
  · rw [if_neg c3] at H
    have c3b0 : (t168.toList == ([] : List UInt8)) = false := beq_eq_false_iff_ne.mpr c3
    have c3b1 : (t168.toList != ([] : List UInt8)) = true := bne_iff_ne.mpr c3
    have c3b2 : t168.toList.isEmpty = false := Bool.eq_false_iff.mpr (fun h_ => c3 (List.isEmpty_iff.mp h_))
    obtain rfl := Option.some.inj H
    go_enter Tryd.func20, Tryd.ntmps20
    go_wp2_with (first | ((with_reducible refine gate_callee (f := 36) rfl ?_); refine goesL_ (some 5) rfl rfl Tryd.func36 (by kernel_rfl) rfl #[.string a0, .string (⟨#[48]⟩ : ByteArray)] rfl (by (try simp only [List.map_toArray, List.map_cons, List.map_nil]); first | done | rfl | (simp only [List.length_drop, List.length_take]; rfl)) ?_; (with_reducible refine (strings_TrimLeft.calls a0 (⟨#[48]⟩ : ByteArray) t168 _ A2.out).mono ?_); rintro e w5 ⟨rfl, hb⟩; refine ⟨_, rfl, ?_⟩; have n0_ := Aside0.mk (below_step (by repeat (first | (with_reducible first | exact HB.out | apply below_alloc | apply pw_below_drewN | apply below_drew1) | exact HB.out)) hb); clear HB; have HB := n0_; clear n0_; (try clear hb); (try clear hb2); (try clear hk); (try clear hi)))
    go_ret
    exact ⟨by first | rfl | (simp [errW_none, errW_some] <;> rfl) | (simp [*, errW_none, errW_some] <;> rfl), by repeat (first | (with_reducible first | exact HB.out | apply below_alloc | apply pw_below_drewN | apply below_drew1) | exact HB.out)⟩
end Go.Proofs.YtpijehmhgjkkoaaDoor.Q
namespace Go.Proofs.YtpijehmhgjkkoaaDoor.Q
open Go.RowKit Go.Proofs.YtpijehmhgjkkoaaDoorW.PrintWords Go.Proofs.YtpijehmhgjkkoaaDoorW.PrintLast Go.Proofs.YtpijehmhgjkkoaaDoorW.PrintMore
attribute [local go_sem] max2_int min2_int max_two min_two max_three min_three max_four min_four   -- for this text's walks alone
set_option linter.unusedVariables false
set_option linter.unusedSimpArgs false
/-! ### ver_take: function 37 -/
def ver_take.l0 : Nat → ByteArray → Bool → Int → Option (ByteArray × ByteArray)
  | 0, _, _, _ => none
  | k + 1, x0, x1, x6 => if x6 < (x0.size : Int) then (if 0 ≤ x6 then ((ver_digit.f (bt x0 x6)).bind fun t169 => (if (t169 == x1) = true then (ver_take.l0 k x0 x1 (wrap64 (x6 + 1))) else (if x6 ≤ (x0.size : Int) then (some ((x0.extract 0 (x6 : Int).toNat), (x0.extract (x6 : Int).toNat x0.size))) else (none)))) else (none)) else (if 0 ≤ x6 then (if x6 ≤ (x0.size : Int) then (some ((x0.extract 0 (x6 : Int).toNat), (x0.extract (x6 : Int).toNat x0.size))) else (none)) else (none))
def ver_take.f (k : Nat) (a0 : ByteArray) (a1 : Bool) : Option (ByteArray × ByteArray) := ver_take.l0 k a0 a1 0
theorem ver_take.mono_l : ∀ k, (∀ y0 y1 y2, LeO (ver_take.l0 k y0 y1 y2) (ver_take.l0 (k + 1) y0 y1 y2))
  | 0 => fun _ _ _ r h => by simp [ver_take.l0] at h
  | k + 1 => by
    have ih0 := ver_take.mono_l k
    · intro y0 y1 y2
      unfold ver_take.l0
      repeat' first
      | (with_reducible exact ih0 _ _ _)
      | (with_reducible exact LeO.refl _)
      | (with_reducible exact LeO.none _)
      | (with_reducible refine LeO.ite ?_ ?_)
      | (with_reducible refine LeO.bind ?_ (fun _ => ?_))
      | exact ih0 _ _ _
      | exact LeO.none _
      | refine LeO.ite ?_ ?_
      | refine LeO.bind ?_ (fun _ => ?_)
theorem ver_take.mono : ∀ a0 a1 k, LeO (ver_take.f k a0 a1) (ver_take.f (k + 1) a0 a1) := by
  intro a0 a1 k
  have ih0 := ver_take.mono_l k
  unfold ver_take.f
  repeat' first
      | (with_reducible exact ih0 _ _ _)
      | (with_reducible exact LeO.refl _)
      | (with_reducible exact LeO.none _)
      | (with_reducible refine LeO.ite ?_ ?_)
      | (with_reducible refine LeO.bind ?_ (fun _ => ?_))
      | exact ih0 _ _ _
      | exact LeO.none _
      | refine LeO.ite ?_ ?_
      | refine LeO.bind ?_ (fun _ => ?_)
set_option maxHeartbeats 8000000 in
set_option maxRecDepth 100000 in
theorem ver_take.calls (k : Nat) (a0 : ByteArray) (a1 : Bool) (r1 : ByteArray) (r2 : ByteArray) (w : World) (h : ver_take.f k a0 a1 = some (r1, r2)) :
    Calls Tryd.prog 37 #[.string a0, .bool a1] w fun e w' => e = .returned (.tuple #[.string r1, .string r2]) ∧ Drawn0 w w' := by
  have H : (ver_take.l0 k a0 a1 0) = some (r1, r2) := h
  clear h
  have H' := Aside0.mk H
  clear H
  go_enter Tryd.func37, Tryd.ntmps37
  go_wp2
  repeat (go_quiet (fail); try go_wp2)
  go_loopg [6] k (fun kq v6 w' => ∃ (x6_1 : Int), v6 = .int .i64 x6_1 ∧ Aside0 (ver_take.l0 kq a0 a1 x6_1 = some (r1, r2)) ∧ Aside0 (kq ≤ k) ∧ Drawn0 w w')
  case atStart => exact ⟨(0), (by first | rfl | (simp; done) | (simp [*]; done)), H', ⟨Nat.le_refl _⟩, by repeat (first | exact Drawn0.refl _ | apply Drawn0.step)⟩
  case round =>
    clear H'
    try clear p2
    obtain ⟨x6_1, rfl, HA, HK1, ⟨m1, rfl⟩⟩ := hrel
    cases gk with
    | zero => exact absurd HA.out (by simp [ver_take.l0])
    | succ k1 =>
      have H := HA.out
      clear HA
      simp only [ver_take.l0] at H
      by_cases c3 : x6_1 < (a0.size : Int)
      · rw [if_pos c3] at H
        have c3b0 : decide (x6_1 < (a0.size : Int)) = true := decide_eq_true c3
        clear c3
        by_cases c4 : 0 ≤ x6_1
        · rw [if_pos c4] at H
          have c4b0 : decide (0 ≤ x6_1) = true := decide_eq_true c4
          clear c4
          replace H := Option.bind_eq_some_iff.mp H
          obtain ⟨t169, A60, H⟩ := H
          replace H : (if (t169 == a1) = true then (ver_take.l0 k1 a0 a1 (wrap64 (x6_1 + 1))) else (if x6_1 ≤ (a0.size : Int) then (some ((a0.extract 0 (x6_1 : Int).toNat), (a0.extract (x6_1 : Int).toNat a0.size))) else (none))) = some (r1, r2) := H
          have A6 := Aside0.mk A60
          clear A60
          by_cases c7 : (t169 == a1) = true
          · rw [if_pos c7] at H
            have c7b0 : (t169 == a1) = true := c7
            (try (have c7b1 : decide (t169 = a1) = true := by simpa using c7))
            (try (have c7b2 : (t169 == a1) = true := by simpa using c7))
            clear c7
            have H' := Aside0.mk H
            clear H
            have p5 : 0 ≤ (x6_1 : Int) := of_decide_eq_true (by first | (with_reducible assumption) | assumption)
            have q5 : x6_1 < (a0.size : Int) := of_decide_eq_true (by first | (with_reducible assumption) | assumption)
            have hx5 := bt_at a0 x6_1
            replace p5 := eq_true p5
            replace q5 := eq_true q5
            go_wp2_with (first | (go_at_call 57; (with_reducible refine (ver_digit.calls (bt a0 x6_1) t169 _ A6.out).mono ?_); rintro e w' ⟨rfl, ⟨nd, rfl⟩⟩; (try first | exact ⟨rfl, _, World.drewN_drewN _ _ _⟩ | exact ⟨rfl, _, Eq.trans (World.drewN_drewN _ _ _) (congrArg (World.drewN _) (Nat.add_assoc _ _ _))⟩)))
            repeat (go_quiet (first | (go_at_call 57; (with_reducible refine (ver_digit.calls (bt a0 x6_1) t169 _ A6.out).mono ?_); rintro e w' ⟨rfl, ⟨nd, rfl⟩⟩; (try first | exact ⟨rfl, _, World.drewN_drewN _ _ _⟩ | exact ⟨rfl, _, Eq.trans (World.drewN_drewN _ _ _) (congrArg (World.drewN _) (Nat.add_assoc _ _ _))⟩))); try go_wp2_with (first | (go_at_call 57; (with_reducible refine (ver_digit.calls (bt a0 x6_1) t169 _ A6.out).mono ?_); rintro e w' ⟨rfl, ⟨nd, rfl⟩⟩; (try first | exact ⟨rfl, _, World.drewN_drewN _ _ _⟩ | exact ⟨rfl, _, Eq.trans (World.drewN_drewN _ _ _) (congrArg (World.drewN _) (Nat.add_assoc _ _ _))⟩))))
            go_roundg k1
            case measure => have := HK1.out; omega
            case rel => exact ⟨(wrap64 (x6_1 + 1)), (by first | rfl | (simp; done) | (simp [*]; done)), H', ⟨by have := HK1.out; omega⟩, by repeat (first | exact Drawn0.refl _ | apply Drawn0.step)⟩
          · rw [if_neg c7] at H
            have c7b0 : (t169 == a1) = false := by simpa using c7
            (try (have c7b1 : decide (t169 = a1) = false := by simpa using c7))
            (try (have c7b2 : (t169 == a1) = false := by simpa using c7))
            (try (have c7b3 : ¬ (t169 = a1) := by simpa using c7))
            clear c7
            have c8b0 := eq_true (of_decide_eq_true (by first | (with_reducible assumption) | assumption) : 0 ≤ x6_1)
            by_cases c9 : x6_1 ≤ (a0.size : Int)
            · rw [if_pos c9] at H
              have c9b0 := eq_true c9
              have c9b1 : decide (x6_1 ≤ (a0.size : Int)) = true := decide_eq_true c9
              clear c9
              obtain ⟨y170, hy170⟩ : ∃ y_ : ByteArray, y_ = (a0.extract 0 (x6_1 : Int).toNat) := ⟨_, rfl⟩
              replace H : (some (y170, (a0.extract (x6_1 : Int).toNat a0.size))) = some (r1, r2) := by first | (rw [hy170]; with_reducible exact H) | (have H2_ := (Option.bind_some _ _).symm.trans H; rw [hy170]; with_reducible exact H2_) | (have H2_ := (Option.bind_some _ _).symm.trans H; with_reducible exact H2_) | with_reducible exact H | (rw [hy170]; exact H) | exact H
              have Ny170 := Aside0.mk hy170
              clear hy170
              have Ey170 : a0.extract 0 (x6_1 : Int).toNat = y170 := Ny170.out.symm
              have c10b0 := eq_true (of_decide_eq_true (by first | (with_reducible assumption) | assumption) : 0 ≤ x6_1)
              have c11b0 := eq_true (of_decide_eq_true (by first | (with_reducible assumption) | assumption) : x6_1 ≤ (a0.size : Int))
              obtain ⟨y171, hy171⟩ : ∃ y_ : ByteArray, y_ = (a0.extract (x6_1 : Int).toNat a0.size) := ⟨_, rfl⟩
              replace H : (some (y170, y171)) = some (r1, r2) := by first | (rw [hy171]; with_reducible exact H) | (have H2_ := (Option.bind_some _ _).symm.trans H; rw [hy171]; with_reducible exact H2_) | (have H2_ := (Option.bind_some _ _).symm.trans H; with_reducible exact H2_) | with_reducible exact H | (rw [hy171]; exact H) | exact H
              have Ny171 := Aside0.mk hy171
              clear hy171
              have Ey171 : a0.extract (x6_1 : Int).toNat a0.size = y171 := Ny171.out.symm
              simp only [Option.some.injEq, Prod.mk.injEq] at H
              obtain ⟨rfl, rfl⟩ := H
              have p5 : 0 ≤ (x6_1 : Int) := of_decide_eq_true (by first | (with_reducible assumption) | assumption)
              have q5 : x6_1 < (a0.size : Int) := of_decide_eq_true (by first | (with_reducible assumption) | assumption)
              have hx5 := bt_at a0 x6_1
              replace p5 := eq_true p5
              replace q5 := eq_true q5
              go_wp2_with (first | (go_at_call 57; (with_reducible refine (ver_digit.calls (bt a0 x6_1) t169 _ A6.out).mono ?_); rintro e w' ⟨rfl, ⟨nd, rfl⟩⟩; (try first | exact ⟨rfl, _, World.drewN_drewN _ _ _⟩ | exact ⟨rfl, _, Eq.trans (World.drewN_drewN _ _ _) (congrArg (World.drewN _) (Nat.add_assoc _ _ _))⟩)))
              repeat (go_quiet (first | (go_at_call 57; (with_reducible refine (ver_digit.calls (bt a0 x6_1) t169 _ A6.out).mono ?_); rintro e w' ⟨rfl, ⟨nd, rfl⟩⟩; (try first | exact ⟨rfl, _, World.drewN_drewN _ _ _⟩ | exact ⟨rfl, _, Eq.trans (World.drewN_drewN _ _ _) (congrArg (World.drewN _) (Nat.add_assoc _ _ _))⟩))); try go_wp2_with (first | (go_at_call 57; (with_reducible refine (ver_digit.calls (bt a0 x6_1) t169 _ A6.out).mono ?_); rintro e w' ⟨rfl, ⟨nd, rfl⟩⟩; (try first | exact ⟨rfl, _, World.drewN_drewN _ _ _⟩ | exact ⟨rfl, _, Eq.trans (World.drewN_drewN _ _ _) (congrArg (World.drewN _) (Nat.add_assoc _ _ _))⟩))))
              go_ret2
              exact ⟨by first | rfl | (simp; done) | (simp [*]; done), by repeat (first | exact Drawn0.refl _ | apply Drawn0.step)⟩
            · rw [if_neg c9] at H
              exact absurd H (by simp)
        · rw [if_neg c4] at H
          exact absurd H (by simp)
      · rw [if_neg c3] at H
        have c3b0 : decide (x6_1 < (a0.size : Int)) = false := decide_eq_false c3
        clear c3
        by_cases c12 : 0 ≤ x6_1
        · rw [if_pos c12] at H
          have c12b0 := eq_true c12
          have c12b1 : decide (0 ≤ x6_1) = true := decide_eq_true c12
          clear c12
          by_cases c13 : x6_1 ≤ (a0.size : Int)
          · rw [if_pos c13] at H
            have c13b0 := eq_true c13
            have c13b1 : decide (x6_1 ≤ (a0.size : Int)) = true := decide_eq_true c13
            clear c13
            obtain ⟨y172, hy172⟩ : ∃ y_ : ByteArray, y_ = (a0.extract 0 (x6_1 : Int).toNat) := ⟨_, rfl⟩
            replace H : (some (y172, (a0.extract (x6_1 : Int).toNat a0.size))) = some (r1, r2) := by first | (rw [hy172]; with_reducible exact H) | (have H2_ := (Option.bind_some _ _).symm.trans H; rw [hy172]; with_reducible exact H2_) | (have H2_ := (Option.bind_some _ _).symm.trans H; with_reducible exact H2_) | with_reducible exact H | (rw [hy172]; exact H) | exact H
            have Ny172 := Aside0.mk hy172
            clear hy172
            have Ey172 : a0.extract 0 (x6_1 : Int).toNat = y172 := Ny172.out.symm
            have c14b0 := eq_true (of_decide_eq_true (by first | (with_reducible assumption) | assumption) : 0 ≤ x6_1)
            have c15b0 := eq_true (of_decide_eq_true (by first | (with_reducible assumption) | assumption) : x6_1 ≤ (a0.size : Int))
            obtain ⟨y173, hy173⟩ : ∃ y_ : ByteArray, y_ = (a0.extract (x6_1 : Int).toNat a0.size) := ⟨_, rfl⟩
            replace H : (some (y172, y173)) = some (r1, r2) := by first | (rw [hy173]; with_reducible exact H) | (have H2_ := (Option.bind_some _ _).symm.trans H; rw [hy173]; with_reducible exact H2_) | (have H2_ := (Option.bind_some _ _).symm.trans H; with_reducible exact H2_) | with_reducible exact H | (rw [hy173]; exact H) | exact H
            have Ny173 := Aside0.mk hy173
            clear hy173
            have Ey173 : a0.extract (x6_1 : Int).toNat a0.size = y173 := Ny173.out.symm
            simp only [Option.some.injEq, Prod.mk.injEq] at H
            obtain ⟨rfl, rfl⟩ := H
            go_wp2
            repeat (go_quiet (fail); try go_wp2)
            go_ret2
            exact ⟨by first | rfl | (simp; done) | (simp [*]; done), by repeat (first | exact Drawn0.refl _ | apply Drawn0.step)⟩
          · rw [if_neg c13] at H
            exact absurd H (by simp)
        · rw [if_neg c12] at H
          exact absurd H (by simp)
end Go.Proofs.YtpijehmhgjkkoaaDoor.Q
namespace Go.Proofs.YtpijehmhgjkkoaaDoor.Q
open Go.RowKit Go.Proofs.YtpijehmhgjkkoaaDoorW.PrintWords Go.Proofs.YtpijehmhgjkkoaaDoorW.PrintLast Go.Proofs.YtpijehmhgjkkoaaDoorW.PrintMore
attribute [local go_sem] max2_int min2_int max_two min_two max_three min_three max_four min_four   -- for this text's walks alone
set_option linter.unusedVariables false
set_option linter.unusedSimpArgs false

-- HANDPART plain.lean
/-! ### ver_plain: by hand -/
/-- What plain tells: the builder's text grows run by run. -/
def ver_plain.l0 : Nat → ByteArray → ByteArray → Option ByteArray
  | 0, _, _ => none
  | k + 1, s, o => if s.toList = ([] : List UInt8) then some o else (ver_take.f k s true).bind fun t => ((ver_take.f k t.2 false).bind fun u => ((ver_bare.f t.1).bind fun n => (if n.size + u.1.size ≤ 9223372036854775807 then (if o.size + (n ++ u.1).size ≤ 140737488355328 then ver_plain.l0 k u.2 (o ++ (n ++ u.1)) else none) else none)))
def ver_plain.f (k : Nat) (a0 : ByteArray) : Option ByteArray := ver_plain.l0 k a0 ⟨#[]⟩
theorem ver_plain.mono_l : ∀ k, (∀ y0 y1, LeO (ver_plain.l0 k y0 y1) (ver_plain.l0 (k + 1) y0 y1))
  | 0 => fun _ _ r h => by simp [ver_plain.l0] at h
  | k + 1 => by
    have ih0 := ver_plain.mono_l k
    intro y0 y1
    unfold ver_plain.l0
    repeat' first
      | (with_reducible exact ih0 _ _)
      | (with_reducible exact ver_take.mono _ _ _)
      | (with_reducible exact LeO.refl _)
      | (with_reducible exact LeO.none _)
      | (with_reducible refine LeO.ite ?_ ?_)
      | (with_reducible refine LeO.bind ?_ (fun _ => ?_))
theorem ver_plain.mono : ∀ a0 k, LeO (ver_plain.f k a0) (ver_plain.f (k + 1) a0) := fun a0 k => ver_plain.mono_l k a0 ⟨#[]⟩
set_option maxHeartbeats 8000000 in
set_option maxRecDepth 100000 in
theorem ver_plain.calls (k : Nat) (a0 : ByteArray) (r : ByteArray) (w : World) (h : ver_plain.f k a0 = some r) :
    Calls Tryd.prog 21 #[.string a0] w fun e w' => e = .returned (.string r) ∧ Below w.heap.size w w' := by
  have H : ver_plain.l0 k a0 ⟨#[]⟩ = some r := h
  clear h
  have HF := Aside0.mk (YtpijehmhgjkkoaaDoorW.Bld.fresh w)
  have HB := Aside0.mk (below_alloc (Below.refl w.heap.size w) (.cells #[.pointer none, .slice none 0 0] 59))
  have H' := Aside0.mk H
  clear H
  go_enter Tryd.func21, Tryd.ntmps21
  go_wp2
  go_loopg [0] k (fun kq v0 w' => ∃ (x0_1 o : ByteArray), v0 = .string x0_1 ∧ Aside0 (ver_plain.l0 kq x0_1 o = some r) ∧ Aside0 (kq ≤ k) ∧ Aside0 (YtpijehmhgjkkoaaDoorW.Bld.Is w.heap.size w.heap.size o w') ∧ Aside0 (Below w.heap.size w w'))
  case atStart => exact ⟨a0, ⟨#[]⟩, rfl, H', ⟨Nat.le_refl _⟩, HF, HB⟩
  case round =>
    clear H' HF HB
    obtain ⟨x0, o, rfl, HA, HK1, HI, HB⟩ := hrel
    cases gk with
    | zero => exact absurd HA.out (by simp [ver_plain.l0])
    | succ k1 =>
      have H := HA.out
      clear HA
      simp only [ver_plain.l0] at H
      by_cases c2 : x0.toList = ([] : List UInt8)
      · rw [if_pos c2] at H
        have c2b0 : (x0.toList == ([] : List UInt8)) = true := beq_iff_eq.mpr c2
        have c2b1 : (x0.toList != ([] : List UInt8)) = false := bne_eq_false_iff_eq.mpr c2
        have c2b2 : x0.toList.isEmpty = true := List.isEmpty_iff.mpr c2
        clear c2
        obtain rfl := Option.some.inj H
        clear H
        have hs := below_size HB.out
        go_wp2_with (first | (go_at_call 39; (refine (YtpijehmhgjkkoaaDoorW.Bld.reads w.heap.size w.heap.size o _ HI.out (by exact hs)).mono ?_); rintro e w2 ⟨rfl, hb⟩; have HB2 := Aside0.mk (below_weaken HB.out (Nat.le_refl _) hb); clear hb))
        go_ret
        exact ⟨rfl, HB2.out⟩
      · rw [if_neg c2] at H
        have c2b0 : (x0.toList == ([] : List UInt8)) = false := beq_eq_false_iff_ne.mpr c2
        have c2b1 : (x0.toList != ([] : List UInt8)) = true := bne_iff_ne.mpr c2
        have c2b2 : x0.toList.isEmpty = false := Bool.eq_false_iff.mpr (fun h_ => c2 (List.isEmpty_iff.mp h_))
        clear c2
        obtain ⟨⟨t1, t2⟩, A10, H⟩ := Option.bind_eq_some_iff.mp H
        obtain ⟨⟨u1, u2⟩, A20, H⟩ := Option.bind_eq_some_iff.mp H
        obtain ⟨n, A30, H⟩ := Option.bind_eq_some_iff.mp H
        have A1 := Aside0.mk A10
        have A2 := Aside0.mk A20
        have A3 := Aside0.mk A30
        clear A10 A20 A30
        by_cases c3 : n.size + u1.size ≤ 9223372036854775807
        · rw [if_pos c3] at H
          have c3b0 := eq_true c3
          have c3b1 : decide (n.size + u1.size ≤ 9223372036854775807) = true := decide_eq_true c3
          have c3b2 : (9223372036854775807 < n.size + u1.size) = False := eq_false (Nat.not_lt.2 c3)
          clear c3
          obtain ⟨y, hy⟩ : ∃ y_ : ByteArray, y_ = n ++ u1 := ⟨_, rfl⟩
          have E : n ++ u1 = y := hy.symm
          rw [E] at H
          have NE := Aside0.mk E
          clear hy
          by_cases c4 : o.size + y.size ≤ 140737488355328
          · rw [if_pos c4] at H
            have C4 := Aside0.mk c4
            clear c4
            have H' := Aside0.mk H
            clear H
            have hs := below_size HB.out
            go_wp2_with (first
              | (go_at_call 37; (with_reducible refine (ver_take.calls k1 x0 true t1 t2 _ A1.out).mono ?_); rintro e w' ⟨rfl, ⟨nd, rfl⟩⟩)
              | (go_at_call 37; (with_reducible refine (ver_take.calls k1 t2 false u1 u2 _ A2.out).mono ?_); rintro e w' ⟨rfl, ⟨nd, rfl⟩⟩)
              | (go_at_call 20; (with_reducible refine (ver_bare.calls t1 n _ A3.out).mono ?_); rintro e w2 ⟨rfl, hb⟩; have HI2 := Aside0.mk (YtpijehmhgjkkoaaDoorW.Bld.Is.on (B := w.heap.size) (b := w.heap.size) (t := o) hb HI.out); have HB2 := Aside0.mk (below_on hb (by repeat (first | exact HB.out | apply pw_below_drewN))); clear hb; have hs2 := below_size HB2.out)
              | (go_at_call 38; (refine (YtpijehmhgjkkoaaDoorW.Bld.writes w.heap.size w.heap.size o y _ HI2.out C4.out hs2).mono ?_); rintro e w3 ⟨rfl, hi, hb⟩; have HI3 := Aside0.mk hi; have HB3 := Aside0.mk (below_weaken HB2.out (Nat.le_refl _) hb); clear hi hb))
            go_roundg k1
            case measure => have := HK1.out; omega
            case rel => exact ⟨u2, o ++ y, rfl, H', ⟨by have := HK1.out; omega⟩, HI3, HB3⟩
          · rw [if_neg c4] at H
            cases H
        · rw [if_neg c3] at H
          cases H
end Go.Proofs.YtpijehmhgjkkoaaDoor.Q
namespace Go.Proofs.YtpijehmhgjkkoaaDoor.Q
open Go.RowKit Go.Proofs.YtpijehmhgjkkoaaDoorW.PrintWords Go.Proofs.YtpijehmhgjkkoaaDoorW.PrintLast Go.Proofs.YtpijehmhgjkkoaaDoorW.PrintMore
attribute [local go_sem] max2_int min2_int max_two min_two max_three min_three max_four min_four   -- for this text's walks alone
set_option linter.unusedVariables false
set_option linter.unusedSimpArgs false
/-! ### ver_Canon: function 10 -/
def ver_Canon.j0 : Nat → ByteArray → ByteArray → ByteArray → ByteArray → Option (ByteArray × Int)
  | 0, _, _, _, _ => none
  | k + 1, x2, x179000, x179001, x179002 => (ver_plain.f k x179001).bind fun t181 => (if x2.size + t181.size ≤ 9223372036854775807 then ((some (x2 ++ t181 : ByteArray)).bind fun y182 => ((ver_plain.f k x179002).bind fun t183 => (if t183.toList = ([48] : List UInt8) then (some (y182, 0)) else (if 1 + t183.size ≤ 9223372036854775807 then ((some ((⟨#[45]⟩ : ByteArray) ++ t183 : ByteArray)).bind fun y184 => (if y182.size + y184.size ≤ 9223372036854775807 then (some ((y182 ++ y184), 0)) else (none))) else (none))))) else (none))
def ver_Canon.f (k : Nat) (a0 : ByteArray) : Option (ByteArray × Int) := (ver_cut.f k a0).bind fun bt175 => (if bt175.2.2.2 = 0 then ((ver_bare.f bt175.1).bind fun t179 => (if t179.toList = ([48] : List UInt8) then (ver_Canon.j0 k (⟨#[]⟩ : ByteArray) bt175.1 bt175.2.1 bt175.2.2.1) else (if t179.size + 1 ≤ 9223372036854775807 then (ver_Canon.j0 k (t179 ++ (⟨#[58]⟩ : ByteArray)) bt175.1 bt175.2.1 bt175.2.2.1) else (none)))) else (some ((⟨#[]⟩ : ByteArray), bt175.2.2.2)))
theorem ver_Canon.mono_l : ∀ k, (∀ y0 y1 y2 y3, LeO (ver_Canon.j0 k y0 y1 y2 y3) (ver_Canon.j0 (k + 1) y0 y1 y2 y3))
  | 0 => fun _ _ _ _ r h => by simp [ver_Canon.j0] at h
  | k + 1 => by
    have ih0 := ver_Canon.mono_l k
    · intro y0 y1 y2 y3
      unfold ver_Canon.j0
      repeat' first
      | (with_reducible exact ih0 _ _ _ _)
      | (with_reducible exact ver_cut.mono _ _)
      | (with_reducible exact ver_plain.mono _ _)
      | (with_reducible exact LeO.refl _)
      | (with_reducible exact LeO.none _)
      | (with_reducible refine LeO.ite ?_ ?_)
      | (with_reducible refine LeO.bind ?_ (fun _ => ?_))
      | exact ih0 _ _ _ _
      | exact ver_cut.mono _ _
      | exact ver_plain.mono _ _
      | exact LeO.none _
      | refine LeO.ite ?_ ?_
      | refine LeO.bind ?_ (fun _ => ?_)
theorem ver_Canon.mono : ∀ a0 k, LeO (ver_Canon.f k a0) (ver_Canon.f (k + 1) a0) := by
  intro a0 k
  have ih0 := ver_Canon.mono_l k
  unfold ver_Canon.f
  repeat' first
      | (with_reducible exact ih0 _ _ _ _)
      | (with_reducible exact ver_cut.mono _ _)
      | (with_reducible exact ver_plain.mono _ _)
      | (with_reducible exact LeO.refl _)
      | (with_reducible exact LeO.none _)
      | (with_reducible refine LeO.ite ?_ ?_)
      | (with_reducible refine LeO.bind ?_ (fun _ => ?_))
      | exact ih0 _ _ _ _
      | exact ver_cut.mono _ _
      | exact ver_plain.mono _ _
      | exact LeO.none _
      | refine LeO.ite ?_ ?_
      | refine LeO.bind ?_ (fun _ => ?_)
set_option maxHeartbeats 8000000 in
set_option maxRecDepth 100000 in
theorem ver_Canon.calls (k : Nat) (a0 : ByteArray) (r1 : ByteArray) (r2 : Int) (w : World) (h : ver_Canon.f k a0 = some (r1, r2)) :
    Calls Tryd.prog 10 #[.string a0] w fun e w' => e = .returned (.tuple #[.string r1, .int .i64 r2]) ∧ Below w.heap.size w w' := by
  have hu44 := Tryd.underlying44
  have HB := Aside0.mk (Below.refl w.heap.size w)
  have H : ((ver_cut.f k a0).bind fun bt175 => (if bt175.2.2.2 = 0 then ((ver_bare.f bt175.1).bind fun t179 => (if t179.toList = ([48] : List UInt8) then (ver_Canon.j0 k (⟨#[]⟩ : ByteArray) bt175.1 bt175.2.1 bt175.2.2.1) else (if t179.size + 1 ≤ 9223372036854775807 then (ver_Canon.j0 k (t179 ++ (⟨#[58]⟩ : ByteArray)) bt175.1 bt175.2.1 bt175.2.2.1) else (none)))) else (some ((⟨#[]⟩ : ByteArray), bt175.2.2.2)))) = some (r1, r2) := h
  clear h
  replace H := Option.bind_eq_some_iff.mp H
  obtain ⟨⟨t175, t176, t177, t186⟩, A20, H⟩ := H
  replace H : (if t186 = 0 then ((ver_bare.f t175).bind fun t179 => (if t179.toList = ([48] : List UInt8) then (ver_Canon.j0 k (⟨#[]⟩ : ByteArray) t175 t176 t177) else (if t179.size + 1 ≤ 9223372036854775807 then (ver_Canon.j0 k (t179 ++ (⟨#[58]⟩ : ByteArray)) t175 t176 t177) else (none)))) else (some ((⟨#[]⟩ : ByteArray), t186))) = some (r1, r2) := H
  have A2 := Aside0.mk A20
  clear A20
  by_cases c3 : t186 = 0
  · subst c3
    have H1 : ((ver_bare.f t175).bind fun t179 => (if t179.toList = ([48] : List UInt8) then (ver_Canon.j0 k (⟨#[]⟩ : ByteArray) t175 t176 t177) else (if t179.size + 1 ≤ 9223372036854775807 then (ver_Canon.j0 k (t179 ++ (⟨#[58]⟩ : ByteArray)) t175 t176 t177) else (none)))) = some (r1, r2) := by rw [if_pos rfl] at H; exact H
    clear H
    have H := H1
    clear H1
    replace H := Option.bind_eq_some_iff.mp H
    obtain ⟨t179, A40, H⟩ := H
    replace H : (if t179.toList = ([48] : List UInt8) then (ver_Canon.j0 k (⟨#[]⟩ : ByteArray) t175 t176 t177) else (if t179.size + 1 ≤ 9223372036854775807 then (ver_Canon.j0 k (t179 ++ (⟨#[58]⟩ : ByteArray)) t175 t176 t177) else (none))) = some (r1, r2) := H
    have A4 := Aside0.mk A40
    clear A40
    have HC5 := Aside0.mk H
    clear H
    let BP_ : Exit → Act → World → Prop := bodyPost Tryd.prog Tryd.f10 (fun _ _ => True)
    go_enter_defers Tryd.func10, Tryd.ntmps10
    go_upto_if 13 with (first | ((with_reducible refine gate_dst (N := 3) rfl ?_); refine box_event ?hg (N := 3) ?hd (cs := #[.int .i64 0]) (t := 23) ?hr ?_; (case hd => rfl); (case hg => rfl); (case hr => first | (go_simp; done) | (go_simp; rfl)); intro gb174 hg w6 hbox hb; have n0_ := Aside0.mk (below_step (by repeat (first | (with_reducible first | exact HB.out | apply below_alloc | apply pw_below_drewN | apply below_drew1) | exact HB.out)) hb); have n1_ := Aside0.mk (hbox); have n2_ := Aside0.mk ((by rw [hg]; exact (below_size (by repeat (first | (with_reducible first | exact HB.out | apply below_alloc | apply pw_below_drewN | apply below_drew1) | exact HB.out))) : w.heap.size ≤ gb174)); have n3_ := Aside0.mk ((by rw [hg]; exact (below_size (by repeat (first | (with_reducible first | exact HB.out | apply below_alloc | apply pw_below_drewN | apply below_drew1) | exact HB.out))) : w.heap.size ≤ gb174)); clear HB; have HB := n0_; have BK174 := n1_; have GW174 := n2_; have GE174 := n3_; clear n0_ n1_ n2_ n3_; clear hb hbox hg) | ((with_reducible refine gate_callee (f := 19) rfl ?_); refine goesL_ (some 8) rfl rfl Tryd.func19 (by kernel_rfl) rfl #[.string a0] rfl (by (try simp only [List.map_toArray, List.map_cons, List.map_nil]); first | done | rfl | (simp only [List.length_drop, List.length_take]; rfl)) ?_; (with_reducible refine (ver_cut.calls k a0 t175 t176 t177 _ A2.out).mono ?_); rintro e w7 ⟨rfl, hb⟩; refine ⟨_, rfl, ?_⟩; have n0_ := Aside0.mk (blk_below (g := gb174) (o := .cells #[.int .i64 0] 23 (0, 0)) (by (with_reducible repeat (first | refine blk_drewN ?_ _ | refine blk_drew ?_ | refine blk_alloc ?_ _)); exact BK174.out) hb); have n1_ := Aside0.mk (below_step (by repeat (first | (with_reducible first | exact HB.out | apply below_alloc | apply pw_below_drewN | apply below_drew1 | refine below_set ?_ GE174.out) | exact HB.out)) hb); clear BK174; clear HB; have BK174 := n0_; have HB := n1_; clear n0_ n1_; (try clear hb); (try clear hb2); (try clear hk); (try clear hi)) | ((with_reducible refine gate_dst (N := 4) rfl ?_); refine box_event ?hg (N := 4) ?hd (cs := #[.string (⟨#[]⟩ : ByteArray), .string (⟨#[]⟩ : ByteArray), .string (⟨#[]⟩ : ByteArray)]) (t := 44) ?hr ?_; (case hd => rfl); (case hg => rfl); (case hr => first | (go_simp; done) | (go_simp; rfl)); intro gb178 hg w8 hbox hb; have n0_ := Aside0.mk (blk_below (g := gb174) (o := .cells #[.int .i64 0] 23 (0, 0)) (by (with_reducible repeat (first | refine blk_drewN ?_ _ | refine blk_drew ?_ | refine blk_alloc ?_ _)); exact BK174.out) hb); have n1_ := Aside0.mk (below_step (by repeat (first | (with_reducible first | exact HB.out | apply below_alloc | apply pw_below_drewN | apply below_drew1 | refine below_set ?_ GE174.out) | exact HB.out)) hb); have n2_ := Aside0.mk (hbox); have n3_ := Aside0.mk ((by rw [hg]; exact (below_size (by repeat (first | (with_reducible first | exact HB.out | apply below_alloc | apply pw_below_drewN | apply below_drew1 | refine below_set ?_ GE174.out) | exact HB.out))) : w.heap.size ≤ gb178)); have n4_ := Aside0.mk ((by rw [hg]; exact (below_size (by repeat (first | (with_reducible first | exact HB.out | apply below_alloc | apply pw_below_drewN | apply below_drew1 | refine below_set ?_ GE174.out) | exact HB.out))) : w.heap.size ≤ gb178)); have n5_ := Aside0.mk ((by rw [hg]; exact Nat.ne_of_lt (blk_lt (g := gb174) (o := .cells #[.int .i64 0] 23 (0, 0)) (by (with_reducible repeat (first | refine blk_drewN ?_ _ | refine blk_drew ?_ | refine blk_alloc ?_ _)); exact BK174.out)) : gb174 ≠ gb178)); have n6_ := Aside0.mk ((by rw [hg]; exact Nat.ne_of_gt (blk_lt (g := gb174) (o := .cells #[.int .i64 0] 23 (0, 0)) (by (with_reducible repeat (first | refine blk_drewN ?_ _ | refine blk_drew ?_ | refine blk_alloc ?_ _)); exact BK174.out)) : gb178 ≠ gb174)); clear BK174; clear HB; have BK174 := n0_; have HB := n1_; have BK178 := n2_; have GW178 := n3_; have GE178 := n4_; have NB174_178 := n5_; have NB178_174 := n6_; clear n0_ n1_ n2_ n3_ n4_ n5_ n6_; clear hb hbox hg; have hnb9 := NB178_174.out; have hnc9 := NB174_178.out; have hcz10_0 : w8.cell? ⟨gb178, 0, none⟩ = some (.string (⟨#[]⟩ : ByteArray)) := (blk_cell BK178.out 0).trans rfl; have hcz10_1 : w8.cell? ⟨gb178, 1, none⟩ = some (.string (⟨#[]⟩ : ByteArray)) := (blk_cell BK178.out 1).trans rfl; have hcz10_2 : w8.cell? ⟨gb178, 2, none⟩ = some (.string (⟨#[]⟩ : ByteArray)) := (blk_cell BK178.out 2).trans rfl; have hfz10_0 := blk_frozen BK178.out 0; have hfz10_1 := blk_frozen BK178.out 1; have hfz10_2 := blk_frozen BK178.out 2) | ((with_reducible refine gate_callee (f := 20) rfl ?_); refine goesL_ (some 11) rfl rfl Tryd.func20 (by kernel_rfl) rfl #[.string t175] rfl (by (try simp only [List.map_toArray, List.map_cons, List.map_nil]); first | done | rfl | (simp only [List.length_drop, List.length_take]; rfl)) ?_; (with_reducible refine (ver_bare.calls t175 t179 _ A4.out).mono ?_); rintro e w11 ⟨rfl, hb⟩; refine ⟨_, rfl, ?_⟩; have n0_ := Aside0.mk (blk_below (g := gb174) (o := .cells #[.int .i64 0] 23 (0, 0)) (by (with_reducible repeat (first | refine blk_drewN ?_ _ | refine blk_drew ?_ | refine blk_alloc ?_ _)); refine blk_far ?_ NB174_178.out _; (with_reducible repeat (first | refine blk_drewN ?_ _ | refine blk_drew ?_ | refine blk_alloc ?_ _)); refine blk_far ?_ NB174_178.out _; (with_reducible repeat (first | refine blk_drewN ?_ _ | refine blk_drew ?_ | refine blk_alloc ?_ _)); refine blk_far ?_ NB174_178.out _; (with_reducible repeat (first | refine blk_drewN ?_ _ | refine blk_drew ?_ | refine blk_alloc ?_ _)); exact BK174.out) hb); have n1_ := Aside0.mk (blk_below (g := gb178) (o := .cells #[.string t175, .string t176, .string t177] 44 (0, 0)) (by (with_reducible repeat (first | refine blk_drewN ?_ _ | refine blk_drew ?_ | refine blk_alloc ?_ _)); refine blk_put (cs := #[.string t175, .string t176, .string (⟨#[]⟩ : ByteArray)]) ?_ 2 _ rfl; (with_reducible repeat (first | refine blk_drewN ?_ _ | refine blk_drew ?_ | refine blk_alloc ?_ _)); refine blk_put (cs := #[.string t175, .string (⟨#[]⟩ : ByteArray), .string (⟨#[]⟩ : ByteArray)]) ?_ 1 _ rfl; (with_reducible repeat (first | refine blk_drewN ?_ _ | refine blk_drew ?_ | refine blk_alloc ?_ _)); refine blk_put (cs := #[.string (⟨#[]⟩ : ByteArray), .string (⟨#[]⟩ : ByteArray), .string (⟨#[]⟩ : ByteArray)]) ?_ 0 _ rfl; (with_reducible repeat (first | refine blk_drewN ?_ _ | refine blk_drew ?_ | refine blk_alloc ?_ _)); exact BK178.out) hb); have n2_ := Aside0.mk (below_step (by repeat (first | (with_reducible first | exact HB.out | apply below_alloc | apply pw_below_drewN | apply below_drew1 | refine below_set ?_ GE174.out | refine below_set ?_ GE178.out) | exact HB.out)) hb); clear BK174; clear BK178; clear HB; have BK174 := n0_; have BK178 := n1_; have HB := n2_; clear n0_ n1_ n2_; (try clear hb); (try clear hb2); (try clear hk); (try clear hi)))
    (try simp only [Act.put, List.setIfInBounds_toArray, List.set_cons_zero, List.set_cons_succ])
    go_cut [2] (fun v2 wc => ∃ (kq : Nat) (x2_4 : ByteArray), v2 = .string x2_4 ∧ Aside0 (ver_Canon.j0 kq x2_4 t175 t176 t177 = some (r1, r2)) ∧ Aside0 (kq ≤ k) ∧ Aside0 (wc.heap[gb174]? = some (.cells #[.int .i64 0] 23 (0, 0))) ∧ Aside0 (wc.heap[gb178]? = some (.cells #[.string t175, .string t176, .string t177] 44 (0, 0))) ∧ Aside0 (Below w.heap.size w wc))
    case first =>
      have H := HC5.out
      clear HC5
      by_cases c12 : t179.toList = ([48] : List UInt8)
      · rw [if_pos c12] at H
        have c12b0 : (t179.toList == ([48] : List UInt8)) = true := beq_iff_eq.mpr c12
        have c12b1 : (t179.toList != ([48] : List UInt8)) = false := bne_eq_false_iff_eq.mpr c12
        clear c12
        (first | rw [c12b0] | (simp only [i64_w, i32_w]; rw [c12b0]) | rw [c12b2] | skip)
        have H' := Aside0.mk H
        clear H
        go_wp2
        go_meet
        case rel => exact ⟨_, ((⟨#[]⟩ : ByteArray)), (by first | rfl | (simp; done) | (simp [*]; done)), H', ⟨by first | omega | exact Nat.le_refl _⟩, ⟨by (with_reducible repeat (first | refine blk_drewN ?_ _ | refine blk_drew ?_ | refine blk_alloc ?_ _)); exact BK174.out⟩, ⟨by (with_reducible repeat (first | refine blk_drewN ?_ _ | refine blk_drew ?_ | refine blk_alloc ?_ _)); exact BK178.out⟩, ⟨by repeat (first | (with_reducible first | exact HB.out | apply below_alloc | apply pw_below_drewN | apply below_drew1 | refine below_set ?_ GE174.out | refine below_set ?_ GE178.out) | exact HB.out)⟩⟩
      · rw [if_neg c12] at H
        have c12b0 : (t179.toList == ([48] : List UInt8)) = false := beq_eq_false_iff_ne.mpr c12
        have c12b1 : (t179.toList != ([48] : List UInt8)) = true := bne_iff_ne.mpr c12
        (first | rw [c12b0] | (simp only [i64_w, i32_w]; rw [c12b0]) | rw [c12b2] | skip)
        by_cases c13 : t179.size + 1 ≤ 9223372036854775807
        · rw [if_pos c13] at H
          have c13b0 := eq_true c13
          have c13b1 : decide (t179.size + 1 ≤ 9223372036854775807) = true := decide_eq_true c13
          try have c13b2 : (9223372036854775807 < t179.size + 1) = False := eq_false (Nat.not_lt.2 c13)
          obtain ⟨y180, hy180⟩ : ∃ y_ : ByteArray, y_ = (t179 ++ (⟨#[58]⟩ : ByteArray)) := ⟨_, rfl⟩
          replace H : (ver_Canon.j0 k y180 t175 t176 t177) = some (r1, r2) := by first | (rw [hy180]; with_reducible exact H) | (have H2_ := (Option.bind_some _ _).symm.trans H; rw [hy180]; with_reducible exact H2_) | (have H2_ := (Option.bind_some _ _).symm.trans H; with_reducible exact H2_) | with_reducible exact H | (rw [hy180]; exact H) | exact H
          have Ny180 := Aside0.mk hy180
          clear hy180
          have Ey180 : t179 ++ (⟨#[58]⟩ : ByteArray) = y180 := Ny180.out.symm
          have H' := Aside0.mk H
          clear H
          go_wp2
          go_meet
          case rel => exact ⟨_, (y180), (by first | rfl | (simp; done) | (simp [*]; done)), H', ⟨by first | omega | exact Nat.le_refl _⟩, ⟨by (with_reducible repeat (first | refine blk_drewN ?_ _ | refine blk_drew ?_ | refine blk_alloc ?_ _)); exact BK174.out⟩, ⟨by (with_reducible repeat (first | refine blk_drewN ?_ _ | refine blk_drew ?_ | refine blk_alloc ?_ _)); exact BK178.out⟩, ⟨by repeat (first | (with_reducible first | exact HB.out | apply below_alloc | apply pw_below_drewN | apply below_drew1 | refine below_set ?_ GE174.out | refine below_set ?_ GE178.out) | exact HB.out)⟩⟩
        · rw [if_neg c13] at H
          exact absurd H (by simp)
    case rest =>
      clear HC5
      try clear c1
      try clear c2
      try clear p2
      try clear c3
      try clear c9
      try clear c10
      try clear c12
      try clear c12b0
      try clear c12b1
      try clear c12b2
      try clear c13
      try clear c13b0
      try clear c13b1
      try clear c13b2
      try clear hcz10_0
      try clear hcz10_1
      try clear hcz10_2
      try clear hfz10_0
      try clear hfz10_1
      try clear hfz10_2
      obtain ⟨kq, x2_4, rfl, HA, HJ4, BK174, BK178, HB⟩ := hcut
      cases kq with
      | zero => exact absurd HA.out (by simp [ver_Canon.j0])
      | succ kj4 =>
        have H := HA.out
        clear HA
        simp only [ver_Canon.j0] at H
        replace H := Option.bind_eq_some_iff.mp H
        obtain ⟨t181, A140, H⟩ := H
        replace H : (if x2_4.size + t181.size ≤ 9223372036854775807 then ((some (x2_4 ++ t181 : ByteArray)).bind fun y182 => ((ver_plain.f kj4 t177).bind fun t183 => (if t183.toList = ([48] : List UInt8) then (some (y182, 0)) else (if 1 + t183.size ≤ 9223372036854775807 then ((some ((⟨#[45]⟩ : ByteArray) ++ t183 : ByteArray)).bind fun y184 => (if y182.size + y184.size ≤ 9223372036854775807 then (some ((y182 ++ y184), 0)) else (none))) else (none))))) else (none)) = some (r1, r2) := H
        have A14 := Aside0.mk A140
        clear A140
        by_cases c15 : x2_4.size + t181.size ≤ 9223372036854775807
        · rw [if_pos c15] at H
          have c15b0 := eq_true c15
          have c15b1 : decide (x2_4.size + t181.size ≤ 9223372036854775807) = true := decide_eq_true c15
          try have c15b2 : (9223372036854775807 < x2_4.size + t181.size) = False := eq_false (Nat.not_lt.2 c15)
          obtain ⟨y182, hy182⟩ : ∃ y_ : ByteArray, y_ = (x2_4 ++ t181) := ⟨_, rfl⟩
          replace H : ((ver_plain.f kj4 t177).bind fun t183 => (if t183.toList = ([48] : List UInt8) then (some (y182, 0)) else (if 1 + t183.size ≤ 9223372036854775807 then ((some ((⟨#[45]⟩ : ByteArray) ++ t183 : ByteArray)).bind fun y184 => (if y182.size + y184.size ≤ 9223372036854775807 then (some ((y182 ++ y184), 0)) else (none))) else (none)))) = some (r1, r2) := by first | (rw [hy182]; with_reducible exact H) | (have H2_ := (Option.bind_some _ _).symm.trans H; rw [hy182]; with_reducible exact H2_) | (have H2_ := (Option.bind_some _ _).symm.trans H; with_reducible exact H2_) | with_reducible exact H | (rw [hy182]; exact H) | exact H
          have Ny182 := Aside0.mk hy182
          clear hy182
          have Ey182 : x2_4 ++ t181 = y182 := Ny182.out.symm
          replace H := Option.bind_eq_some_iff.mp H
          obtain ⟨t183, A160, H⟩ := H
          replace H : (if t183.toList = ([48] : List UInt8) then (some (y182, 0)) else (if 1 + t183.size ≤ 9223372036854775807 then ((some ((⟨#[45]⟩ : ByteArray) ++ t183 : ByteArray)).bind fun y184 => (if y182.size + y184.size ≤ 9223372036854775807 then (some ((y182 ++ y184), 0)) else (none))) else (none))) = some (r1, r2) := H
          have A16 := Aside0.mk A160
          clear A160
          by_cases c17 : t183.toList = ([48] : List UInt8)
          · rw [if_pos c17] at H
            have c17b0 : (t183.toList == ([48] : List UInt8)) = true := beq_iff_eq.mpr c17
            have c17b1 : (t183.toList != ([48] : List UInt8)) = false := bne_eq_false_iff_eq.mpr c17
            clear c17
            simp only [Option.some.injEq, Prod.mk.injEq] at H
            obtain ⟨rfl, rfl⟩ := H
            have hnb18 := NB178_174.out
            have hnc18 := NB174_178.out
            have hcz19_0 : wc.cell? ⟨gb178, 0, none⟩ = some (.string t175) := (blk_cell BK178.out 0).trans rfl
            have hcz19_1 : wc.cell? ⟨gb178, 1, none⟩ = some (.string t176) := (blk_cell BK178.out 1).trans rfl
            have hcz19_2 : wc.cell? ⟨gb178, 2, none⟩ = some (.string t177) := (blk_cell BK178.out 2).trans rfl
            have hfz19_0 := blk_frozen BK178.out 0
            have hfz19_1 := blk_frozen BK178.out 1
            have hfz19_2 := blk_frozen BK178.out 2
            go_wp2_with (first | ((with_reducible refine gate_callee (f := 21) rfl ?_); refine goesL_ (some 19) rfl rfl Tryd.func21 (by kernel_rfl) rfl #[.string t176] rfl (by (try simp only [List.map_toArray, List.map_cons, List.map_nil]); first | done | rfl | (simp only [List.length_drop, List.length_take]; rfl)) ?_; (with_reducible refine (ver_plain.calls kj4 t176 t181 _ A14.out).mono ?_); rintro e w20 ⟨rfl, hb⟩; refine ⟨_, rfl, ?_⟩; have n0_ := Aside0.mk (blk_below (g := gb174) (o := .cells #[.int .i64 0] 23 (0, 0)) (by (with_reducible repeat (first | refine blk_drewN ?_ _ | refine blk_drew ?_ | refine blk_alloc ?_ _)); exact BK174.out) hb); have n1_ := Aside0.mk (blk_below (g := gb178) (o := .cells #[.string t175, .string t176, .string t177] 44 (0, 0)) (by (with_reducible repeat (first | refine blk_drewN ?_ _ | refine blk_drew ?_ | refine blk_alloc ?_ _)); exact BK178.out) hb); have n2_ := Aside0.mk (below_step (by repeat (first | (with_reducible first | exact HB.out | apply below_alloc | apply pw_below_drewN | apply below_drew1 | refine below_set ?_ GE174.out | refine below_set ?_ GE178.out) | exact HB.out)) hb); clear BK174; clear BK178; clear HB; have BK174 := n0_; have BK178 := n1_; have HB := n2_; clear n0_ n1_ n2_; (try clear hb); (try clear hb2); (try clear hk); (try clear hi); have hcz21_0 : w20.cell? ⟨gb178, 0, none⟩ = some (.string t175) := (blk_cell BK178.out 0).trans rfl; have hcz21_1 : w20.cell? ⟨gb178, 1, none⟩ = some (.string t176) := (blk_cell BK178.out 1).trans rfl; have hcz21_2 : w20.cell? ⟨gb178, 2, none⟩ = some (.string t177) := (blk_cell BK178.out 2).trans rfl; have hfz21_0 := blk_frozen BK178.out 0; have hfz21_1 := blk_frozen BK178.out 1; have hfz21_2 := blk_frozen BK178.out 2) | ((with_reducible refine gate_callee (f := 21) rfl ?_); refine goesL_ (some 23) rfl rfl Tryd.func21 (by kernel_rfl) rfl #[.string t177] rfl (by (try simp only [List.map_toArray, List.map_cons, List.map_nil]); first | done | rfl | (simp only [List.length_drop, List.length_take]; rfl)) ?_; (with_reducible refine (ver_plain.calls kj4 t177 t183 _ A16.out).mono ?_); rintro e w22 ⟨rfl, hb⟩; refine ⟨_, rfl, ?_⟩; have n0_ := Aside0.mk (blk_below (g := gb174) (o := .cells #[.int .i64 0] 23 (0, 0)) (by (with_reducible repeat (first | refine blk_drewN ?_ _ | refine blk_drew ?_ | refine blk_alloc ?_ _)); exact BK174.out) hb); have n1_ := Aside0.mk (blk_below (g := gb178) (o := .cells #[.string t175, .string t176, .string t177] 44 (0, 0)) (by (with_reducible repeat (first | refine blk_drewN ?_ _ | refine blk_drew ?_ | refine blk_alloc ?_ _)); exact BK178.out) hb); have n2_ := Aside0.mk (below_step (by repeat (first | (with_reducible first | exact HB.out | apply below_alloc | apply pw_below_drewN | apply below_drew1 | refine below_set ?_ GE174.out | refine below_set ?_ GE178.out) | exact HB.out)) hb); clear BK174; clear BK178; clear HB; have BK174 := n0_; have BK178 := n1_; have HB := n2_; clear n0_ n1_ n2_; (try clear hb); (try clear hb2); (try clear hk); (try clear hi); have hcz23_0 : w22.cell? ⟨gb174, 0, none⟩ = some (.int .i64 0) := (blk_cell BK174.out 0).trans rfl; have hfz23_0 := blk_frozen BK174.out 0))
            refine leaves_cons (f := 18) (args := #[.pointer (some ⟨gb174, 0, none⟩)]) (by simp) (by simp [go_sem]) ?_
            refine (ver_catch.idle gb174 _).mono ?_
            rintro e u' w'' ⟨rfl, rfl, rfl⟩
            refine leaves_nil (resultsS_list (rs := [.tmp 2, .cell 3 23]) rfl (by simp) (.tmp (.one gb174 23 (.int .i64 0) (0, 0) _ rfl (by (with_reducible repeat (first | refine blk_drewN ?_ _ | refine blk_drew ?_ | refine blk_alloc ?_ _)); refine blk_put (cs := #[.int .i64 0]) ?_ 0 _ rfl; (with_reducible repeat (first | refine blk_drewN ?_ _ | refine blk_drew ?_ | refine blk_alloc ?_ _)); exact BK174.out) Tryd.underlying23 rfl .nil))) ?_
            exact ⟨by first | rfl | (simp [errW_none, errW_some] <;> rfl) | (simp [*, errW_none, errW_some] <;> rfl), by repeat (first | (with_reducible first | exact HB.out | apply below_alloc | apply pw_below_drewN | apply below_drew1 | refine below_set ?_ GE174.out | refine below_set ?_ GE178.out) | exact HB.out)⟩
          · rw [if_neg c17] at H
            have c17b0 : (t183.toList == ([48] : List UInt8)) = false := beq_eq_false_iff_ne.mpr c17
            have c17b1 : (t183.toList != ([48] : List UInt8)) = true := bne_iff_ne.mpr c17
            by_cases c24 : 1 + t183.size ≤ 9223372036854775807
            · rw [if_pos c24] at H
              have c24b0 := eq_true c24
              have c24b1 : decide (1 + t183.size ≤ 9223372036854775807) = true := decide_eq_true c24
              try have c24b2 : (9223372036854775807 < 1 + t183.size) = False := eq_false (Nat.not_lt.2 c24)
              obtain ⟨y184, hy184⟩ : ∃ y_ : ByteArray, y_ = ((⟨#[45]⟩ : ByteArray) ++ t183) := ⟨_, rfl⟩
              replace H : (if y182.size + y184.size ≤ 9223372036854775807 then (some ((y182 ++ y184), 0)) else (none)) = some (r1, r2) := by first | (rw [hy184]; with_reducible exact H) | (have H2_ := (Option.bind_some _ _).symm.trans H; rw [hy184]; with_reducible exact H2_) | (have H2_ := (Option.bind_some _ _).symm.trans H; with_reducible exact H2_) | with_reducible exact H | (rw [hy184]; exact H) | exact H
              have Ny184 := Aside0.mk hy184
              clear hy184
              have Ey184 : (⟨#[45]⟩ : ByteArray) ++ t183 = y184 := Ny184.out.symm
              by_cases c25 : y182.size + y184.size ≤ 9223372036854775807
              · rw [if_pos c25] at H
                have c25b0 := eq_true c25
                have c25b1 : decide (y182.size + y184.size ≤ 9223372036854775807) = true := decide_eq_true c25
                try have c25b2 : (9223372036854775807 < y182.size + y184.size) = False := eq_false (Nat.not_lt.2 c25)
                obtain ⟨y185, hy185⟩ : ∃ y_ : ByteArray, y_ = (y182 ++ y184) := ⟨_, rfl⟩
                replace H : (some (y185, 0)) = some (r1, r2) := by first | (rw [hy185]; with_reducible exact H) | (have H2_ := (Option.bind_some _ _).symm.trans H; rw [hy185]; with_reducible exact H2_) | (have H2_ := (Option.bind_some _ _).symm.trans H; with_reducible exact H2_) | with_reducible exact H | (rw [hy185]; exact H) | exact H
                have Ny185 := Aside0.mk hy185
                clear hy185
                have Ey185 : y182 ++ y184 = y185 := Ny185.out.symm
                simp only [Option.some.injEq, Prod.mk.injEq] at H
                obtain ⟨rfl, rfl⟩ := H
                have hnb26 := NB178_174.out
                have hnc26 := NB174_178.out
                have hcz27_0 : wc.cell? ⟨gb178, 0, none⟩ = some (.string t175) := (blk_cell BK178.out 0).trans rfl
                have hcz27_1 : wc.cell? ⟨gb178, 1, none⟩ = some (.string t176) := (blk_cell BK178.out 1).trans rfl
                have hcz27_2 : wc.cell? ⟨gb178, 2, none⟩ = some (.string t177) := (blk_cell BK178.out 2).trans rfl
                have hfz27_0 := blk_frozen BK178.out 0
                have hfz27_1 := blk_frozen BK178.out 1
                have hfz27_2 := blk_frozen BK178.out 2
                go_wp2_with (first | ((with_reducible refine gate_callee (f := 21) rfl ?_); refine goesL_ (some 19) rfl rfl Tryd.func21 (by kernel_rfl) rfl #[.string t176] rfl (by (try simp only [List.map_toArray, List.map_cons, List.map_nil]); first | done | rfl | (simp only [List.length_drop, List.length_take]; rfl)) ?_; (with_reducible refine (ver_plain.calls kj4 t176 t181 _ A14.out).mono ?_); rintro e w28 ⟨rfl, hb⟩; refine ⟨_, rfl, ?_⟩; have n0_ := Aside0.mk (blk_below (g := gb174) (o := .cells #[.int .i64 0] 23 (0, 0)) (by (with_reducible repeat (first | refine blk_drewN ?_ _ | refine blk_drew ?_ | refine blk_alloc ?_ _)); exact BK174.out) hb); have n1_ := Aside0.mk (blk_below (g := gb178) (o := .cells #[.string t175, .string t176, .string t177] 44 (0, 0)) (by (with_reducible repeat (first | refine blk_drewN ?_ _ | refine blk_drew ?_ | refine blk_alloc ?_ _)); exact BK178.out) hb); have n2_ := Aside0.mk (below_step (by repeat (first | (with_reducible first | exact HB.out | apply below_alloc | apply pw_below_drewN | apply below_drew1 | refine below_set ?_ GE174.out | refine below_set ?_ GE178.out) | exact HB.out)) hb); clear BK174; clear BK178; clear HB; have BK174 := n0_; have BK178 := n1_; have HB := n2_; clear n0_ n1_ n2_; (try clear hb); (try clear hb2); (try clear hk); (try clear hi); have hcz29_0 : w28.cell? ⟨gb178, 0, none⟩ = some (.string t175) := (blk_cell BK178.out 0).trans rfl; have hcz29_1 : w28.cell? ⟨gb178, 1, none⟩ = some (.string t176) := (blk_cell BK178.out 1).trans rfl; have hcz29_2 : w28.cell? ⟨gb178, 2, none⟩ = some (.string t177) := (blk_cell BK178.out 2).trans rfl; have hfz29_0 := blk_frozen BK178.out 0; have hfz29_1 := blk_frozen BK178.out 1; have hfz29_2 := blk_frozen BK178.out 2) | ((with_reducible refine gate_callee (f := 21) rfl ?_); refine goesL_ (some 23) rfl rfl Tryd.func21 (by kernel_rfl) rfl #[.string t177] rfl (by (try simp only [List.map_toArray, List.map_cons, List.map_nil]); first | done | rfl | (simp only [List.length_drop, List.length_take]; rfl)) ?_; (with_reducible refine (ver_plain.calls kj4 t177 t183 _ A16.out).mono ?_); rintro e w30 ⟨rfl, hb⟩; refine ⟨_, rfl, ?_⟩; have n0_ := Aside0.mk (blk_below (g := gb174) (o := .cells #[.int .i64 0] 23 (0, 0)) (by (with_reducible repeat (first | refine blk_drewN ?_ _ | refine blk_drew ?_ | refine blk_alloc ?_ _)); exact BK174.out) hb); have n1_ := Aside0.mk (blk_below (g := gb178) (o := .cells #[.string t175, .string t176, .string t177] 44 (0, 0)) (by (with_reducible repeat (first | refine blk_drewN ?_ _ | refine blk_drew ?_ | refine blk_alloc ?_ _)); exact BK178.out) hb); have n2_ := Aside0.mk (below_step (by repeat (first | (with_reducible first | exact HB.out | apply below_alloc | apply pw_below_drewN | apply below_drew1 | refine below_set ?_ GE174.out | refine below_set ?_ GE178.out) | exact HB.out)) hb); clear BK174; clear BK178; clear HB; have BK174 := n0_; have BK178 := n1_; have HB := n2_; clear n0_ n1_ n2_; (try clear hb); (try clear hb2); (try clear hk); (try clear hi); have hcz31_0 : w30.cell? ⟨gb174, 0, none⟩ = some (.int .i64 0) := (blk_cell BK174.out 0).trans rfl; have hfz31_0 := blk_frozen BK174.out 0))
                refine leaves_cons (f := 18) (args := #[.pointer (some ⟨gb174, 0, none⟩)]) (by simp) (by simp [go_sem]) ?_
                refine (ver_catch.idle gb174 _).mono ?_
                rintro e u' w'' ⟨rfl, rfl, rfl⟩
                refine leaves_nil (resultsS_list (rs := [.tmp 2, .cell 3 23]) rfl (by simp) (.tmp (.one gb174 23 (.int .i64 0) (0, 0) _ rfl (by (with_reducible repeat (first | refine blk_drewN ?_ _ | refine blk_drew ?_ | refine blk_alloc ?_ _)); refine blk_put (cs := #[.int .i64 0]) ?_ 0 _ rfl; (with_reducible repeat (first | refine blk_drewN ?_ _ | refine blk_drew ?_ | refine blk_alloc ?_ _)); exact BK174.out) Tryd.underlying23 rfl .nil))) ?_
                exact ⟨by first | rfl | (simp [errW_none, errW_some] <;> rfl) | (simp [*, errW_none, errW_some] <;> rfl), by repeat (first | (with_reducible first | exact HB.out | apply below_alloc | apply pw_below_drewN | apply below_drew1 | refine below_set ?_ GE174.out | refine below_set ?_ GE178.out) | exact HB.out)⟩
              · rw [if_neg c25] at H
                exact absurd H (by simp)
            · rw [if_neg c24] at H
              exact absurd H (by simp)
        · rw [if_neg c15] at H
          exact absurd H (by simp)
  · rw [if_neg c3] at H
    have Pc3 := Aside0.mk c3
    clear c3
    simp only [Option.some.injEq, Prod.mk.injEq] at H
    obtain ⟨rfl, rfl⟩ := H
    let BP_ : Exit → Act → World → Prop := bodyPost Tryd.prog Tryd.f10 (fun _ _ => True)
    go_enter_defers Tryd.func10, Tryd.ntmps10
    go_wp2_with (first | ((with_reducible refine gate_dst (N := 3) rfl ?_); refine box_event ?hg (N := 3) ?hd (cs := #[.int .i64 0]) (t := 23) ?hr ?_; (case hd => rfl); (case hg => rfl); (case hr => first | (go_simp; done) | (go_simp; rfl)); intro gb174 hg w32 hbox hb; have n0_ := Aside0.mk (below_step (by repeat (first | (with_reducible first | exact HB.out | apply below_alloc | apply pw_below_drewN | apply below_drew1) | exact HB.out)) hb); have n1_ := Aside0.mk (hbox); have n2_ := Aside0.mk ((by rw [hg]; exact (below_size (by repeat (first | (with_reducible first | exact HB.out | apply below_alloc | apply pw_below_drewN | apply below_drew1) | exact HB.out))) : w.heap.size ≤ gb174)); have n3_ := Aside0.mk ((by rw [hg]; exact (below_size (by repeat (first | (with_reducible first | exact HB.out | apply below_alloc | apply pw_below_drewN | apply below_drew1) | exact HB.out))) : w.heap.size ≤ gb174)); clear HB; have HB := n0_; have BK174 := n1_; have GW174 := n2_; have GE174 := n3_; clear n0_ n1_ n2_ n3_; clear hb hbox hg) | ((with_reducible refine gate_callee (f := 19) rfl ?_); refine goesP_ rfl Tryd.func19 (by kernel_rfl) rfl #[.string a0] rfl (by (try simp only [List.map_toArray, List.map_cons, List.map_nil]); first | done | rfl | (simp only [List.length_drop, List.length_take]; rfl)) ?_; (with_reducible refine (ver_cut.panics k a0 t175 t176 t177 t186 Pc3.out _ A2.out).mono ?_); rintro e w33 ⟨rfl, hb⟩; refine ⟨_, rfl, ?_⟩; have n0_ := Aside0.mk (blk_below (g := gb174) (o := .cells #[.int .i64 0] 23 (0, 0)) (by (with_reducible repeat (first | refine blk_drewN ?_ _ | refine blk_drew ?_ | refine blk_alloc ?_ _)); exact BK174.out) hb); have n1_ := Aside0.mk (below_step (by repeat (first | (with_reducible first | exact HB.out | apply below_alloc | apply pw_below_drewN | apply below_drew1 | refine below_set ?_ GE174.out) | exact HB.out)) hb); clear BK174; clear HB; have BK174 := n0_; have HB := n1_; clear n0_ n1_; (try clear hb); (try clear hb2); (try clear hk); (try clear hi)))
    refine leaves_cons (f := 18) (args := #[.pointer (some ⟨gb174, 0, none⟩)]) (by simp) (by simp [go_sem]) ?_
    refine (ver_catch.hit gb174 _ t186 _ (by (with_reducible repeat (first | refine blk_drewN ?_ _ | refine blk_drew ?_ | refine blk_alloc ?_ _)); exact BK174.out)).mono ?_
    rintro e u' w'' ⟨rfl, rfl, rfl⟩
    refine leaves_nil (resultsS_list (rs := [.tmp 2, .cell 3 23]) rfl (by simp) (.tmp (.one gb174 23 (.int .i64 t186) (0, 0) _ rfl (by (with_reducible repeat (first | refine blk_drewN ?_ _ | refine blk_drew ?_ | refine blk_alloc ?_ _)); refine blk_put (cs := #[.int .i64 0]) ?_ 0 _ rfl; (with_reducible repeat (first | refine blk_drewN ?_ _ | refine blk_drew ?_ | refine blk_alloc ?_ _)); exact BK174.out) Tryd.underlying23 rfl .nil))) ?_
    exact ⟨by first | rfl | (simp [errW_none, errW_some] <;> rfl) | (simp [*, errW_none, errW_some] <;> rfl), by repeat (first | (with_reducible first | exact HB.out | apply below_alloc | apply pw_below_drewN | apply below_drew1 | refine below_set ?_ GE174.out) | exact HB.out)⟩
end Go.Proofs.YtpijehmhgjkkoaaDoor.Q
