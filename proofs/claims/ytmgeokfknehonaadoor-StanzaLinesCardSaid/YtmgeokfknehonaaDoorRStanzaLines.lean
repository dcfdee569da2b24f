/- The statement StanzaLines of manciplelaw5.StanzaLines: for every input the law returns true and its arguments read as they did. Conditions: those of the given row, none of ours. -/
import Derived.Test.YtmgeokfknehonaaDoorRows
import Derived.Test.YtmgeokfknehonaaDoorVStanzaLinesOpenWords
import Derived.Test.YtmgeokfknehonaaDoorRowWords
import Derived.Test.YtmgeokfknehonaaDoorTie
import Derived.Test.YtmgeokfknehonaaDoorCards
import Derived.WalkKit
import Derived.ProofKit
import Derived.OpenShut
import Derived.ShutString
import Derived.ChangeOld
import Derived.Below
import Derived.SizedLaws
import Derived.LaidMore
import Derived.Lay
import Derived.SevenTiedAt
import Derived.Stop.Joined
import Derived.Test.YtmgeokfknehonaaDoorAStanzaLines3
import Derived.Test.YtmgeokfknehonaaDoorTStanzaLines
namespace Go.Proofs.YtmgeokfknehonaaDoor.stanzaLines
open Go.ChangeShapes Go.WideShapes Go.ChangeAt Go.RowKit
open Go.ChangeMaps (open_string shut_string)
open Go.Proofs.YtmgeokfknehonaaDoorW.PrintWords Go.Proofs.YtmgeokfknehonaaDoor.Q
set_option linter.unusedVariables false
theorem own : ownKnob Tryd.prog.godebug = none := by kernel_rfl
theorem laidOut : laidOutB Tryd.prog = true := by kernel_rfl
set_option maxRecDepth 100000 in
theorem lifted (os : Os) (started : os.Started) (H : Type) (enc : TypeId × Value → H) :
    ReturnsInHanded {} Tryd.checked os 5 .any (fun w args => (Rows.stanzaLinesSpec.pre enc Tryd.prog Tryd.f5 Rows.stanzaLinesRow.domain false w args ∧ laidMetH Tryd.prog Rows.stanzaLinesRow.laid w) ∧ sizedMet enc Tryd.prog Tryd.f5 (OpenSpec.ofChange Rows.stanzaLinesSpec) false w args)
      (Rows.stanzaLinesSpec.post enc Tryd.prog Tryd.f5 false true false false) := by
  refine handed_and_shaped (C := Tryd.checked) (X := fun w _ => laidMetH Tryd.prog Rows.stanzaLinesRow.laid w) (fun _ _ _ hh h => h.of_heap hh) own started (by kernel_rfl) Tryd.func5
    (ChangeSpec.witness_shaped (enc := enc) (C := Tryd.checked) (os := os) (X := fun w _ => laidMetH Tryd.prog Rows.stanzaLinesRow.laid w) false (World.laidAll Tryd.prog os Rows.stanzaLinesRow.laid) #[.slice none 0 0, .int .u8 0] 8 (World.laidAll_os _ _ _)
      (World.shaped_of_ZipB (by kernel_rfl) (by kernel_rfl)) (by kernel_rfl) (by kernel_rfl) (by kernel_rfl)
      (by rw [MakeChecks.laidMetH_plain _ _ _ (by kernel_rfl)]; exact laidMet_laidAll _ (by kernel_rfl) (by kernel_rfl))) ?_
  intro W base args ds gs before hval0 hW hcnd hsz0 hL hSH _
  have hsz : (DataW.weightsEach Tryd.prog (Tryd.f5.params.toList ++ Rows.stanzaLinesSpec.plain.varTypes Tryd.prog) (ds ++ gs)).all (· ≤ reachBytes) = true := hsz0
  have hval : ∀ (j : Nat) t v, Tryd.f5.params[j]? = some t → args[j]? = some v → Value.okWide Tryd.prog W .any base t v := hval0
  have hW' := hW
  obtain ⟨p, q, hA0, hV, rfl, hfz, hnd⟩ := hW
  have hA : DataW.TrodAll enc Tryd.prog W 0 (fun _ => true) true Tryd.f5.params.toList args.toList ds p := hA0
  rw [Tryd.params5] at hA hval hsz
  obtain ⟨v0, vs0, d0, ds0, p0, q0, hargs, rfl, rfl, h0, r0⟩ := trodAll_cons hA
  obtain ⟨v1, vs1, d1, ds1, p1, q1, rfl, rfl, rfl, h1, r1⟩ := trodAll_cons r0
  obtain ⟨rfl, rfl, rfl⟩ := trodAll_nil r1
  obtain rfl : args = #[v0, v1] := by cases args; simp_all
  obtain ⟨rfl, rfl⟩ := trodVars_none hV
  obtain ⟨a0, len0, cap0, rfl⟩ := okWide_slice Tryd.underlying50 (hval 0 50 v0 rfl rfl)
  have k0 := h0
  have lt0 : ∀ x ∈ p0, x.block < W.heap.size := by obtain ⟨m, hm⟩ := k0; exact DataW.trod_lt m _ _ _ hm
  obtain ⟨fu0, hf0⟩ := h0
  obtain ⟨z0, ⟨A0, c0, hcs0, hcl0, hC0⟩, w0⟩ := (show Opens Tryd.prog W enc 50 (Kd.slice 5 (Kd.int .u8)) (fun z_ => z_.length ≤ maxLen ∧ ∀ x_ ∈ z_, (Lit.int .u8 x_).wf = true) from (Opens.slice Tryd.underlying50 (by kernel_rfl) (Opens.int Tryd.underlying5))) _ _ _ hf0
  simp [Value.cells] at hcs0
  obtain ⟨rfl, rfl, rfl⟩ := hcs0
  obtain ⟨a1, rfl, rfl, rfl, w1⟩ := open_int Tryd.underlying5 (hval 1 5 v1 rfl rfl) h1
  clear hA0 hval0 hsz0 hsz
  obtain ⟨m_, hm_⟩ : ∃ m, W.cell? ⟨0, 0, none⟩ = some (.int .i64 m) := Tryd.laysM219.s1_3 W hSH
  obtain ⟨k, hk⟩ := Q.StanzaLines z0 a1 w0 w1
  refine (Q.manciplelaw5_StanzaLines.calls k _ _ z0 a1 true W hC0 hcl0 ⟨m_, hm_⟩ hk).mono fun e W' hd_ => ?_
  obtain ⟨he, bel⟩ := hd_
  subst he
  exact ⟨_, rfl, _, _, _, [], _, [], hW', trodAll_mk1 (shut_bool Tryd.underlying4 _), (trodAll_cons_mk (Below.trod laidOut (by kernel_rfl) (of_decide_eq_true (by kernel_rfl)) k0 bel lt0) (trodAll_cons_mk (shut_int Tryd.underlying5 w1) trodAll_mk0)), rfl, bel.frame _, fun h => by cases h⟩
theorem over : Rows.stanzaLinesRow.holds Tryd.pinned (OpenSpec.ofChange Rows.stanzaLinesSpec) :=
  OpenClaim.holds_of_wide 5 Tryd.f5 rfl rfl rfl rfl rfl rfl rfl ⟨rfl, rfl, rfl, rfl, rfl⟩ rfl rfl rfl rfl rfl (by kernel_rfl) Tryd.func5 (by kernel_rfl)
    (of_decide_eq_true (by kernel_rfl)) (by unfold Func.isWrapper; first | (rw [if_pos (by decide +kernel)]; kernel_rfl) | (rw [if_neg (by decide +kernel)]; exact ⟨rfl, rfl⟩))
    (fun os started H enc _ => lifted os started H enc)
theorem proved : Rows.StanzaLinesSaid := over
end Go.Proofs.YtmgeokfknehonaaDoor.stanzaLines
namespace Go.Proofs.YtmgeokfknehonaaDoor
/-- The card. -/
theorem stanzaLines_holds : Rows.StanzaLinesCardSaid :=
  Claim7.holds_tied_plain_at .later [] [.data, .pinned] true (true, "96496f5b7eeae7314ef4528320f291c203842651a9ba22182d84f458638bb40b") true stanzaLines.proved (fun _ h => by cases h) (by kernel_rfl) (fun _ h => by cases h) stanzaLines_row_tie rfl ⟨rfl, rfl⟩ (by kernel_rfl) rfl
    (fun f fn hf hfn => by
      obtain rfl : f = 5 := Option.some.inj ((show Tryd.prog.funcNamed "manciple/manciplelaw5.StanzaLines" = some 5 by kernel_rfl).symm.trans hf) |>.symm
      obtain rfl : fn = Tryd.f5 := (Option.some.inj (Tryd.func5.symm.trans hfn)).symm
      exact ⟨by kernel_rfl, fun j t ht => by
        rw [Tryd.params5] at ht
        have hm : t ∈ [50, 5] := by simpa using Array.mem_of_getElem? ht
        have hall : ([50, 5].all fun u => !Tryd.prog.wantsStandIn u) = true := by kernel_rfl
        exact (show Tryd.prog.wantsStandIn t = false by simpa using List.all_eq_true.1 hall t hm)⟩)
    (by kernel_rfl)
#print axioms stanzaLines_holds
end Go.Proofs.YtmgeokfknehonaaDoor
