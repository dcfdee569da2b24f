/- Words of this claim for library functions that are handed a predicate: at rows as the print tells them. Plain theorems. -/
import Derived.Test.YtmgeokfknehonaaDoorProg
import Derived.Test.YtmgeokfknehonaaDoorVStanzaLinesWords
import Derived.Shelf.SlicesQ.IndexFunc
import Derived.Shelf.SlicesE.IndexFunc
import Derived.Shelf.SlLaysH0
namespace Go.Proofs.YtmgeokfknehonaaDoorW.PrintWords
open Go.RowKit Go.Shelf Go.Lib Go.Proofs
variable {P : Program} {ρ : Ren} {α : Type} [Inhabited α]
theorem spot_none {w : World} {ad : Addr} {v : Value} (h : w.cell? (ad.add 0) = some v) : ad.spot = none := by
  cases hsp : ad.spot with
  | none => rfl
  | some q =>
    have e : ad.add 0 = ad := by simp [Addr.add]
    rw [e] at h
    unfold World.cell? at h
    split at h
    · simp [hsp] at h
    · cases h
theorem at_off {b o n : Nat} : (⟨b, o, none⟩ : Addr).add n = ⟨b, o + n, none⟩ := by
  unfold Addr.add
  split
  · rename_i h
    subst h
    rfl
  · rfl
omit [Inhabited α] in
/-- A row that is read, not empty: its block and its cells. -/
theorem C_block {d : Kd α} {w : World} {A : Option Addr} {x : α} {xs : List α} {n : Nat} (h : d.C w A n (x :: xs)) (h1 : 1 ≤ d.sz) :
    ∃ b o, A = some ⟨b, o, none⟩ ∧ b < w.heap.size ∧ ∀ j p, (x :: xs)[j]? = some p → ∃ c, c.length = d.sz ∧ d.K w p c ∧ ∀ i u, c[i]? = some u → w.cell? ⟨b, o + j * d.sz + i, none⟩ = some u := by
  obtain ⟨h0, _, hf⟩ := h
  obtain ⟨ad, rfl, hc⟩ := hf (by rw [← h0]; exact Nat.succ_pos _)
  obtain ⟨c, hcl, hk, hu⟩ := hc 0 x rfl
  have hx := hu 0 (c[0]'(by omega)) (List.getElem?_eq_getElem _)
  rw [Nat.zero_mul] at hx
  have hs := spot_none hx
  obtain ⟨b, o, sp⟩ := ad
  obtain rfl : sp = none := hs
  refine ⟨b, o, rfl, ?_, fun j p hj => ?_⟩
  · exact World.block_lt_of_cell? _ _ hx
  · obtain ⟨c, hcl, hk, hu⟩ := hc j p hj
    refine ⟨c, hcl, hk, fun i u hi => ?_⟩
    have := hu i u hi
    rwa [at_off, ← Nat.add_assoc] at this
omit [Inhabited α] in
/-- A row of rows that is read: one of its rows. -/
theorem C_row {d : Kd α} {e : Nat} {w : World} {A : Option Addr} {xs : List (List α)} (h : Kd.C (Kd.slice e d) w A xs.length xs) (j : Nat) (hj : j < xs.length) :
    ∃ ad B c, A = some ad ∧ w.cell? (ad.add j) = some (.slice B xs[j].length c) ∧ xs[j].length ≤ c ∧ d.C w B xs[j].length xs[j] := by
  obtain ⟨_, _, hf⟩ := h
  obtain ⟨ad, rfl, hc⟩ := hf (by omega)
  obtain ⟨cs, _, ⟨B, c, rfl, h1, h2⟩, hu⟩ := hc j _ (List.getElem?_eq_getElem hj)
  have h3 := hu 0 _ rfl
  rw [show (Kd.slice e d).sz = 1 from rfl, Nat.mul_one, Nat.add_zero] at h3
  exact ⟨ad, B, c, rfl, h3, h1, h2⟩
omit [Inhabited α] in
/-- A row that is read: the cells of one of its elements. -/
theorem C_cells {d : Kd α} {w : World} {A : Option Addr} {xs : List α} {enc : α → List Value} (h : d.C w A xs.length xs) (j : Nat) (hj : j < xs.length) (hd : ∀ {w x cs}, d.K w x cs → cs = enc x) :
    ∃ ad, A = some ad ∧ ∀ i u, (enc xs[j])[i]? = some u → w.cell? (ad.add (j * d.sz + i)) = some u := by
  obtain ⟨_, _, hf⟩ := h
  obtain ⟨ad, rfl, hc⟩ := hf (by omega)
  obtain ⟨cs, _, hK, hu⟩ := hc j _ (List.getElem?_eq_getElem hj)
  obtain rfl := hd hK
  exact ⟨ad, rfl, hu⟩
/-- A struct of three cells, laid in a block of its own. -/
theorem below_fresh3 (w : World) (o : Obj) (a b c : Value) : Below w.heap.size w ((((w.alloc o).setCell ⟨w.heap.size, 0, none⟩ a).setCell ⟨w.heap.size, 1, none⟩ b).setCell ⟨w.heap.size, 2, none⟩ c) :=
  (((below_alloc (Below.refl _ _) o).setCell (p := ⟨w.heap.size, 0, none⟩) (Nat.le_refl _) a).setCell (p := ⟨w.heap.size, 1, none⟩) (Nat.le_refl _) b).setCell (p := ⟨w.heap.size, 2, none⟩) (Nat.le_refl _) c
theorem get_bang (zs : List α) (j : Nat) (h : j < zs.length) : zs[j]? = some zs[j]! := by
  rw [List.getElem?_eq_getElem h, List.getElem!_eq_getElem?_getD, List.getElem?_eq_getElem h]
  rfl
set_option maxHeartbeats 2000000 in
/-- slices.IndexFunc at no element. -/
theorem idxFunc_none (L : SlLaysH0.n6 P ρ) (a : Option Addr) (c : Nat) (fv : Value) (w : World) :
    Calls P (ρ.f 6) #[.slice a 0 c, fv] w fun e w' => e = .returned (.int .i64 (-1)) ∧ w' = w := by
  have mixed := L.mixed; have t0 := L.t0; have a0 := L.a0; have z0 := L.z0; have v0 := L.v0; have t3 := L.t3; have a3 := L.a3; have z3 := L.z3; have v3 := L.v3; have t4 := L.t4; have a4 := L.a4; have z4 := L.z4; have v4 := L.v4; have t22 := L.t22; have a22 := L.a22; have z22 := L.z22; have v22 := L.v22; have t25 := L.t25; have a25 := L.a25; have z25 := L.z25; have v25 := L.v25
  obtain ⟨_, _, FG⟩ := L.f6
  go_enter FG, SlBodyH.n6_ntmps ρ
  go_wp2
  go_loopg [8] 0 (fun gg s8 wr => s8 = .int .i64 0 ∧ wr = w)
  case atStart => exact ⟨rfl, rfl⟩
  case round =>
    obtain ⟨rfl, rfl⟩ := hrel
    go_wp2
    go_ret
    exact ⟨rfl, rfl⟩
/-- slices.IndexFunc at elements that are structs. -/
theorem idxFunc_agg (L : SlLaysH0.n6 P ρ) (d : Kd α) (h1 : 1 ≤ d.sz) (aE : ∀ w, (isAgg (ρ.t 23)).run P w = .ok true w) (zE : ∀ w, (Go.sizeOf (ρ.t 23)).run P w = .ok d.sz w) (enc : α → List Value) (hd : ∀ {w x cs}, d.K w x cs → cs = enc x) (hk : ∀ x, (enc x).length = d.sz)
    (p : α → Bool) (g : Nat) (lb : Array Value) (eg : ∀ args w, (callFunc g args).run P w = .ok (.enter g args) w) (A : Option Addr) (c : Nat) (xs : List α) (w : World)
    (hp : PredBelow P g lb (fun x => .agg (enc x).toArray) p w) (hr : d.C w A xs.length xs) :
    Calls P (ρ.f 6) #[.slice A xs.length c, .func (.func g) #[] lb] w fun e w' => e = .returned (.int .i64 (Lib.idxBy (fun _ y => p y) xs default)) ∧ Below w.heap.size w w' := by
  cases xs with
  | nil => exact (idxFunc_none L A c _ w).mono fun e w' ⟨h1, h2⟩ => ⟨h1, h2 ▸ Below.refl _ _⟩
  | cons x xs =>
    have hbig := hr.2.1
    obtain ⟨b, o, rfl, hb, hc⟩ := C_block hr h1
    have h := AnyQ.slices_IndexFunc L d.sz aE zE enc hk p g lb eg b o (x :: xs).length c (x :: xs) w hp (Nat.le_refl _) hbig hb (fun j hj i v hi => by
      obtain ⟨c, hcl, hK, hu⟩ := hc j _ (get_bang _ j hj)
      obtain rfl := hd hK
      exact hu i v hi)
    rwa [List.take_length] at h
end Go.Proofs.YtmgeokfknehonaaDoorW.PrintWords
