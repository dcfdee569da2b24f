/- The statement StanzaOrder of manciplelaw5.StanzaOrder: for every input the law returns true and its arguments read as they did. Conditions: those of the given row, none of ours. -/
import Derived.Test.YtmgeokfknehonaaDoorRows
import Derived.Test.YtmgeokfknehonaaDoorVStanzaOrderOpenWords
import Derived.Test.YtmgeokfknehonaaDoorRowWords
import Derived.Test.YtmgeokfknehonaaDoorTie
import Derived.Test.YtmgeokfknehonaaDoorCards
import Derived.WalkKit
import Derived.ProofKit
import Derived.OpenShut
import Derived.ShutString
import Derived.ChangeOld
import Derived.Below
import Derived.SizedLaws
import Derived.LaidMore
import Derived.Lay
import Derived.SevenTiedAt
import Derived.Stop.Joined
import Derived.Test.YtmgeokfknehonaaDoorAStanzaOrder3
import Derived.Test.YtmgeokfknehonaaDoorTStanzaOrder
namespace Go.Proofs.YtmgeokfknehonaaDoor.stanzaOrder
open Go.ChangeShapes Go.WideShapes Go.ChangeAt Go.RowKit
open Go.ChangeMaps (open_string shut_string)
open Go.Proofs.YtmgeokfknehonaaDoorW.PrintWords Go.Proofs.YtmgeokfknehonaaDoor.Q
set_option linter.unusedVariables false
theorem own : ownKnob Tryd.prog.godebug = none := by kernel_rfl
theorem laidOut : laidOutB Tryd.prog = true := by kernel_rfl
set_option maxRecDepth 100000 in
theorem lifted (os : Os) (started : os.Started) (H : Type) (enc : TypeId × Value → H) :
    ReturnsInHanded {} Tryd.checked os 4 .any (fun w args => (Rows.stanzaOrderSpec.pre enc Tryd.prog Tryd.f4 Rows.stanzaOrderRow.domain false w args ∧ laidMetH Tryd.prog Rows.stanzaOrderRow.laid w) ∧ sizedMet enc Tryd.prog Tryd.f4 (OpenSpec.ofChange Rows.stanzaOrderSpec) false w args)
      (Rows.stanzaOrderSpec.post enc Tryd.prog Tryd.f4 false true false false) := by
  refine handed_and_shaped (C := Tryd.checked) (X := fun w _ => laidMetH Tryd.prog Rows.stanzaOrderRow.laid w) (fun _ _ _ hh h => h.of_heap hh) own started (by kernel_rfl) Tryd.func4
    (ChangeSpec.witness_shaped (enc := enc) (C := Tryd.checked) (os := os) (X := fun w _ => laidMetH Tryd.prog Rows.stanzaOrderRow.laid w) false (World.laidAll Tryd.prog os Rows.stanzaOrderRow.laid) #[.slice none 0 0, .slice none 0 0, .string ByteArray.empty] 8 (World.laidAll_os _ _ _)
      (World.shaped_of_ZipB (by kernel_rfl) (by kernel_rfl)) (by kernel_rfl) (by kernel_rfl) (by kernel_rfl)
      (by rw [MakeChecks.laidMetH_plain _ _ _ (by kernel_rfl)]; exact laidMet_laidAll _ (by kernel_rfl) (by kernel_rfl))) ?_
  intro W base args ds gs before hval0 hW hcnd hsz0 hL hSH _
  have hsz : (DataW.weightsEach Tryd.prog (Tryd.f4.params.toList ++ Rows.stanzaOrderSpec.plain.varTypes Tryd.prog) (ds ++ gs)).all (· ≤ reachBytes) = true := hsz0
  have hval : ∀ (j : Nat) t v, Tryd.f4.params[j]? = some t → args[j]? = some v → Value.okWide Tryd.prog W .any base t v := hval0
  have hW' := hW
  obtain ⟨p, q, hA0, hV, rfl, hfz, hnd⟩ := hW
  have hA : DataW.TrodAll enc Tryd.prog W 0 (fun _ => true) true Tryd.f4.params.toList args.toList ds p := hA0
  rw [Tryd.params4] at hA hval hsz
  obtain ⟨v0, vs0, d0, ds0, p0, q0, hargs, rfl, rfl, h0, r0⟩ := trodAll_cons hA
  obtain ⟨v1, vs1, d1, ds1, p1, q1, rfl, rfl, rfl, h1, r1⟩ := trodAll_cons r0
  obtain ⟨v2, vs2, d2, ds2, p2, q2, rfl, rfl, rfl, h2, r2⟩ := trodAll_cons r1
  obtain ⟨rfl, rfl, rfl⟩ := trodAll_nil r2
  obtain rfl : args = #[v0, v1, v2] := by cases args; simp_all
  obtain ⟨rfl, rfl⟩ := trodVars_none hV
  obtain ⟨a0, len0, cap0, rfl⟩ := okWide_slice Tryd.underlying33 (hval 0 33 v0 rfl rfl)
  have k0 := h0
  have lt0 : ∀ x ∈ p0, x.block < W.heap.size := by obtain ⟨m, hm⟩ := k0; exact DataW.trod_lt m _ _ _ hm
  obtain ⟨fu0, hf0⟩ := h0
  obtain ⟨z0, ⟨A0, c0, hcs0, hcl0, hC0⟩, w0⟩ := (show Opens Tryd.prog W enc 33 (Kd.slice 46 k46) (fun z_ => z_.length ≤ maxLen ∧ ∀ x_ ∈ z_, (x_.f0.size ≤ maxLen) ∧ (x_.f1.size ≤ maxLen) ∧ ((Lit.int .i64 x_.f2).wf = true)) from (Opens.slice Tryd.underlying33 (by kernel_rfl) (show Opens Tryd.prog W enc 46 k46 (fun x : S46 => (x.f0.size ≤ maxLen) ∧ (x.f1.size ≤ maxLen) ∧ ((Lit.int .i64 x.f2).wf = true)) from (Opens.struct (fun x : S46 => (x.f0, x.f1, x.f2)) (fun y => (⟨y.1, y.2.1, y.2.2⟩ : S46)) (fun _ => rfl) Tryd.underlying46 (by kernel_rfl) (OpensF.cons rfl (by kernel_rfl) (Opens.string Tryd.underlying9) (OpensF.cons rfl (by kernel_rfl) (Opens.string Tryd.underlying9) (OpensF.one rfl (by kernel_rfl) (Opens.int Tryd.underlying3)))) (by exact fun _ h => h))))) _ _ _ hf0
  simp [Value.cells] at hcs0
  obtain ⟨rfl, rfl, rfl⟩ := hcs0
  obtain ⟨a1, len1, cap1, rfl⟩ := okWide_slice Tryd.underlying34 (hval 1 34 v1 rfl rfl)
  have k1 := h1
  have lt1 : ∀ x ∈ p1, x.block < W.heap.size := by obtain ⟨m, hm⟩ := k1; exact DataW.trod_lt m _ _ _ hm
  obtain ⟨fu1, hf1⟩ := h1
  obtain ⟨z1, ⟨A1, c1, hcs1, hcl1, hC1⟩, w1⟩ := (show Opens Tryd.prog W enc 34 (Kd.slice 9 Kd.string) (fun z_ => z_.length ≤ maxLen ∧ ∀ x_ ∈ z_, x_.size ≤ maxLen) from (Opens.slice Tryd.underlying34 (by kernel_rfl) (Opens.string Tryd.underlying9))) _ _ _ hf1
  simp [Value.cells] at hcs1
  obtain ⟨rfl, rfl, rfl⟩ := hcs1
  obtain ⟨a2, rfl, rfl, rfl, y2⟩ := open_string Tryd.underlying9 (hval 2 9 v2 rfl rfl) h2
  have w2 : a2.size ≤ 140737488351232 := by
    have z := sized_string hsz (j := 2) (t := 9) rfl rfl
    rw [Array.length_toList] at z
    exact z
  clear hA0 hval0 hsz0 hsz
  obtain ⟨m_, hm_⟩ : ∃ m, W.cell? ⟨0, 0, none⟩ = some (.int .i64 m) := Tryd.laysM219.s1_3 W hSH
  obtain ⟨k, hk⟩ := Q.StanzaOrder z0 z1 a2 w0 w1 w2
  refine (Q.manciplelaw5_StanzaOrder.calls k _ _ z0 _ _ z1 a2 true W hC0 hcl0 hC1 hcl1 ⟨m_, hm_⟩ hk).mono fun e W' hd_ => ?_
  obtain ⟨he, bel⟩ := hd_
  subst he
  exact ⟨_, rfl, _, _, _, [], _, [], hW', trodAll_mk1 (shut_bool Tryd.underlying4 _), (trodAll_cons_mk (Below.trod laidOut (by kernel_rfl) (of_decide_eq_true (by kernel_rfl)) k0 bel lt0) (trodAll_cons_mk (Below.trod laidOut (by kernel_rfl) (of_decide_eq_true (by kernel_rfl)) k1 bel lt1) (trodAll_cons_mk (shut_string Tryd.underlying9 y2) trodAll_mk0))), rfl, bel.frame _, fun h => by cases h⟩
theorem over : Rows.stanzaOrderRow.holds Tryd.pinned (OpenSpec.ofChange Rows.stanzaOrderSpec) :=
  OpenClaim.holds_of_wide 4 Tryd.f4 rfl rfl rfl rfl rfl rfl rfl ⟨rfl, rfl, rfl, rfl, rfl⟩ rfl rfl rfl rfl rfl (by kernel_rfl) Tryd.func4 (by kernel_rfl)
    (of_decide_eq_true (by kernel_rfl)) (by unfold Func.isWrapper; first | (rw [if_pos (by decide +kernel)]; kernel_rfl) | (rw [if_neg (by decide +kernel)]; exact ⟨rfl, rfl⟩))
    (fun os started H enc _ => lifted os started H enc)
theorem proved : Rows.StanzaOrderSaid := over
end Go.Proofs.YtmgeokfknehonaaDoor.stanzaOrder
namespace Go.Proofs.YtmgeokfknehonaaDoor
/-- The card. -/
theorem stanzaOrder_holds : Rows.StanzaOrderCardSaid :=
  Claim7.holds_tied_plain_at .later [] [.data, .pinned] true (true, "96496f5b7eeae7314ef4528320f291c203842651a9ba22182d84f458638bb40b") true stanzaOrder.proved (fun _ h => by cases h) (by kernel_rfl) (fun _ h => by cases h) stanzaOrder_row_tie rfl ⟨rfl, rfl⟩ (by kernel_rfl) rfl
    (fun f fn hf hfn => by
      obtain rfl : f = 4 := Option.some.inj ((show Tryd.prog.funcNamed "manciple/manciplelaw5.StanzaOrder" = some 4 by kernel_rfl).symm.trans hf) |>.symm
      obtain rfl : fn = Tryd.f4 := (Option.some.inj (Tryd.func4.symm.trans hfn)).symm
      exact ⟨by kernel_rfl, fun j t ht => by
        rw [Tryd.params4] at ht
        have hm : t ∈ [33, 34, 9] := by simpa using Array.mem_of_getElem? ht
        have hall : ([33, 34, 9].all fun u => !Tryd.prog.wantsStandIn u) = true := by kernel_rfl
        exact (show Tryd.prog.wantsStandIn t = false by simpa using List.all_eq_true.1 hall t hm)⟩)
    (by kernel_rfl)
#print axioms stanzaOrder_holds
end Go.Proofs.YtmgeokfknehonaaDoor
