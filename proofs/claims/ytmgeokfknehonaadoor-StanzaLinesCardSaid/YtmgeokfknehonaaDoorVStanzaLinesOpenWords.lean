/- Words of this claim for a law's arguments: whatever data they are, they read as the print tells them. Plain theorems. -/
import Derived.Test.YtmgeokfknehonaaDoorProg
import Derived.Test.YtmgeokfknehonaaDoorVStanzaLinesWords
import Derived.ChangeSlices
import Derived.RowKit
namespace Go.Proofs.YtmgeokfknehonaaDoorW.PrintWords
open Go.RowKit Go.ChangeShapes Go.WideShapes
theorem mapM_get {α β : Type} {f : α → Option β} : ∀ {l : List α} {r : List β}, l.mapM f = some r → ∀ (i : Nat) (x : α), l[i]? = some x → f x = r[i]?
  | [], r, h, i, x, hx => by simp at hx
  | a :: l, r, h, i, x, hx => by
    rw [List.mapM_cons] at h
    cases hf : f a with
    | none => rw [hf] at h; cases h
    | some b =>
      rw [hf] at h
      cases hr : l.mapM f with
      | none => rw [hr] at h; cases h
      | some bs =>
        rw [hr] at h
        obtain rfl : b :: bs = r := Option.some.inj h
        cases i with
        | zero =>
          obtain rfl : a = x := by simpa using hx
          simpa using hf
        | succ i => exact mapM_get hr i x (by simpa using hx)
theorem mapM_len {α β : Type} {f : α → Option β} : ∀ {l : List α} {r : List β}, l.mapM f = some r → r.length = l.length
  | [], r, h => by
    obtain rfl : [] = r := Option.some.inj h
    rfl
  | a :: l, r, h => by
    rw [List.mapM_cons] at h
    cases hf : f a with
    | none => rw [hf] at h; cases h
    | some b =>
      rw [hf] at h
      cases hr : l.mapM f with
      | none => rw [hr] at h; cases h
      | some bs =>
        rw [hr] at h
        obtain rfl : b :: bs = r := Option.some.inj h
        simp [mapM_len hr]
theorem choose_fin {α : Type} {n : Nat} {p : Nat → α → Prop} (h : ∀ i, i < n → ∃ x, p i x) : ∃ f : Fin n → α, ∀ i : Fin n, p i.1 (f i) :=
  ⟨fun i => Classical.choose (h i.1 i.2), fun i => Classical.choose_spec (h i.1 i.2)⟩
theorem add_add' (a : Addr) (m n : Nat) : (a.add m).add n = a.add (m + n) := by
  unfold Addr.add
  by_cases hm : m = 0
  · subst hm; simp
  · by_cases hn : n = 0
    · subst hn; simp
    · simp [hm, hn, Nat.add_assoc]
theorem cells_at {W : World} {base : Nat} {a : Addr} {n : Nat} {cs : List Value} (h : W.cells? base a n = some cs) (j : Nat) (u : Value) (hu : cs[j]? = some u) : W.cell? (a.add j) = some u := by
  unfold World.cells? at h
  split at h
  · have hl := mapM_len h
    have hj : j < (List.range n).length := by
      have := (List.getElem?_eq_some_iff.1 hu).1
      omega
    have := mapM_get h j j (by rw [List.getElem?_range (by simpa using hj)])
    rw [this, hu]
  · cases h
section
variable {H : Type} {enc : TypeId × Value → H} {P : Program} {W : World}
/-- Whatever reads as a datum of type t reads as the kind d tells it; wf: what is known of it. -/
def Opens (P : Program) (W : World) (enc : TypeId × Value → H) (t : TypeId) {α : Type} (d : Kd α) (wf : α → Prop) : Prop :=
  ∀ (fuel : Nat) (cs : List Value) (x : DataW H × List MemPlace), DataW.trod enc P W 0 (fun _ => true) true fuel t cs = some x → ∃ a : α, d.K W a cs ∧ wf a
theorem Opens.int {t : TypeId} {k : IntKind} (ht : P.underlying t = some (.int k)) : Opens P W enc t (Kd.int k) (fun n => (Lit.int k n).wf = true) := fun _ _ _ h => by
  obtain ⟨n, rfl, _, hw⟩ := DataW.trod_int ht h
  exact ⟨n, rfl, hw⟩
theorem Opens.bool {t : TypeId} (ht : P.underlying t = some .bool) : Opens P W enc t Kd.bool (fun _ => True) := fun _ _ _ h => by
  obtain ⟨n, rfl, _⟩ := DataW.trod_bool ht h
  exact ⟨n, rfl, trivial⟩
theorem Opens.string {t : TypeId} (ht : P.underlying t = some .string) : Opens P W enc t Kd.string (fun s => s.size ≤ maxLen) := fun _ _ _ h => by
  obtain ⟨n, rfl, _, hw⟩ := DataW.trod_string ht h
  exact ⟨n, rfl, hw⟩
theorem Opens.slice {t e : TypeId} {α : Type} {d : Kd α} {wf : α → Prop} (ht : P.underlying t = some (.slice e)) (hc : P.cellsOf e = d.sz) (he : Opens P W enc e d wf) : Opens P W enc t (Kd.slice e d) (fun l => l.length ≤ maxLen ∧ ∀ x ∈ l, wf x) := fun fuel cs x h => by
  rcases DataW.trod_slice ht h with ⟨rfl, rfl⟩ | ⟨a, len, cap, elems, rest, n, _, rfl, rfl, hb, hl, hm, hlen, hel, hsp, hns⟩
  · exact ⟨[], ⟨none, 0, rfl, Nat.le_refl _, Kd.C_nil _ _⟩, by simp, fun x hx => by cases hx⟩
  · have each : ∀ i, i < len → ∃ y : α, wf y ∧ ∃ c, c.length = d.sz ∧ d.K W y c ∧ ∀ j u, c[j]? = some u → W.cell? (a.add (i * d.sz + j)) = some u := by
      intro i hi
      have h1 := hel i hi
      rw [List.getElem?_eq_getElem (by omega), Option.bind_eq_some_iff] at h1
      obtain ⟨c, hcs, hy⟩ := h1
      obtain ⟨y, hK, hw⟩ := he _ _ _ hy
      refine ⟨y, hw, c, d.K_len hK, hK, fun j u hu => ?_⟩
      rw [hc] at hcs
      rw [← add_add']
      exact cells_at hcs j u hu
    obtain ⟨f, hf⟩ := choose_fin each
    refine ⟨(List.finRange len).map f, ⟨some a, cap, by simp, by simpa using hl, ?_⟩, by simp; omega, ?_⟩
    · refine ⟨rfl, by simp; simp [maxLen] at hm; omega, fun _ => ⟨a, rfl, fun j p hj => ?_⟩⟩
      obtain ⟨h2, h3⟩ := List.getElem?_eq_some_iff.1 hj
      have hj' : j < len := by simpa using h2
      obtain ⟨_, c, h4, h5, h6⟩ := hf ⟨j, hj'⟩
      have : p = f ⟨j, hj'⟩ := by rw [← h3]; simp
      rw [this]
      exact ⟨c, h4, h5, h6⟩
    · intro x hx
      obtain ⟨i, _, rfl⟩ := List.mem_map.1 hx
      exact (hf i).1
/-- The fields from place off on read as the kind d tells them. -/
def OpensF (P : Program) (W : World) (enc : TypeId × Value → H) (fs : List Field) (off : Nat) {α : Type} (d : Kd α) (wf : α → Prop) : Prop :=
  ∀ (fuel : Nat) (cs : List Value) (xs : List (DataW H × List MemPlace)), cs.length = off + d.sz →
    (∀ (i : Nat) (f : Field), fs[i]? = some f → DataW.trod enc P W 0 (fun _ => true) true fuel f.type ((cs.drop f.offset).take (P.cellsOf f.type)) = xs[i]?) → xs.length = fs.length → ∃ a : α, d.K W a (cs.drop off) ∧ wf a
theorem OpensF.one {f : Field} {off : Nat} {α : Type} {d : Kd α} {wf : α → Prop} (hf : f.offset = off) (hc : P.cellsOf f.type = d.sz) (h : Opens P W enc f.type d wf) : OpensF P W enc [f] off d wf := fun fuel cs xs hl hx hn => by
  have h1 := hx 0 f rfl
  rw [hf, hc, List.take_of_length_le (by simp; omega), List.getElem?_eq_getElem (by simp at hn; omega)] at h1
  exact h _ _ _ h1
theorem OpensF.cons {f : Field} {fs : List Field} {off : Nat} {α β : Type} {d : Kd α} {d2 : Kd β} {wf : α → Prop} {wf2 : β → Prop} (hf : f.offset = off) (hc : P.cellsOf f.type = d.sz) (h : Opens P W enc f.type d wf)
    (h2 : OpensF P W enc fs (off + d.sz) d2 wf2) : OpensF P W enc (f :: fs) off (Kd.pair d d2) (fun x => wf x.1 ∧ wf2 x.2) := fun fuel cs xs hl hx hn => by
  have hl' : cs.length = off + d.sz + d2.sz := by rw [hl, Nat.add_assoc]; rfl
  have h1 := hx 0 f rfl
  rw [hf, hc, List.getElem?_eq_getElem (by simp at hn; omega)] at h1
  obtain ⟨a, hK, hw⟩ := h _ _ _ h1
  obtain ⟨b, hK2, hw2⟩ := h2 fuel cs xs.tail hl' (fun i g hg => by
    have := hx (i + 1) g (by simpa using hg)
    rw [this, List.getElem?_tail]) (by simp at hn; simp; omega)
  refine ⟨(a, b), ⟨(cs.drop off).take d.sz, cs.drop (off + d.sz), ?_, hK, hK2⟩, hw, hw2⟩
  rw [← List.drop_drop, List.take_append_drop]
theorem Opens.struct {t : TypeId} {fs : Array Field} {α β : Type} {d : Kd α} {wf : α → Prop} {wf' : β → Prop} (f : β → α) (g : α → β) (hfg : ∀ a, f (g a) = a) (ht : P.underlying t = some (.struct fs)) (hc : P.cellsOf t = d.sz) (h : OpensF P W enc fs.toList 0 d wf) (hw' : ∀ b, wf (f b) → wf' b) :
    Opens P W enc t (Kd.iso d f) wf' := fun fuel cs x hx => by
  obtain ⟨xs, n, rfl, _, hl, hn, hi⟩ := DataW.trod_struct ht hx
  obtain ⟨a, hK, hw⟩ := h n cs xs (by rw [hl, hc, Nat.zero_add]) (fun i f hf => hi i f (by simpa using hf)) (by simpa using hn)
  refine ⟨g a, ?_, hw' _ (by rw [hfg]; exact hw)⟩
  show d.K W (f (g a)) cs
  rw [hfg]
  exact hK
end
end Go.Proofs.YtmgeokfknehonaaDoorW.PrintWords
