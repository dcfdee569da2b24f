/- Words of this claim for a row made from a constant text: it carries a mark behind its last cell. Plain theorems. -/
import Derived.Test.YtmgeokfknehonaaDoorProg
import Derived.Test.YtmgeokfknehonaaDoorVStanzaLinesWords
import Derived.Lib.SlBytesConst
namespace Go.Proofs.YtmgeokfknehonaaDoorW.PrintWords
open Go.RowKit Go.Lib
variable {P : Program}
/-- A row of bytes of the call's own, with the mark. -/
def Mk (e : TypeId) (w : World) (base : Nat) (v : Value) (xs : List Int) : Prop :=
  ∃ g cap cur, v = .slice (some ⟨g, 0, none⟩) xs.length cap ∧ base ≤ g ∧ w.heap[g]? = some (.cells cur e (cap, cap + 1)) ∧ xs.length ≤ cap ∧ cap ≤ maxLen ∧ cur.size = cap ∧ cur.toList.take xs.length = nums .u8 xs
namespace Mk
variable {e : TypeId} {w w1 W : World} {base g n cap : Nat} {v : Value} {xs : List Int}
theorem run {w0 : World} {t e' : TypeId} {ok : Nat → Prop} (ht : P.underlying t = some (.slice e')) (he : P.underlying e' = some (.int .u8)) (h : (Kd.int .u8).R e w w0.heap.size ok v xs) (hp : 0 < xs.length) (hB : Below w0.heap.size w0 w) :
    ∃ w1, (convert t t v).run P w = .ok v w1 ∧ Mk e w1 w0.heap.size v xs ∧ Below w0.heap.size w0 w1 := by
  have ho := Kd.own_of_R h
  rcases ho.2 with ⟨rfl, h0⟩ | ⟨g, cap, cur, rfl, hb, hg, hn, hm, hs, hx⟩
  · omega
  · rw [Nat.mul_one] at hs hx
    have hsh : w.shape? g = some (e, cap) := by
      unfold World.shape?
      rw [hg]
      simp [hs]
    have hlt : g < w.heap.size := (Array.getElem?_eq_some_iff.1 hg).1
    have hv : w.heap[g] = .cells cur e (0, 0) := (Array.getElem?_eq_some_iff.1 hg).2
    have hh : (w.freeze ⟨g, cap, none⟩ 1).heap[g]? = some (.cells cur e (cap, cap + 1)) := by
      unfold World.freeze
      rw [if_neg (by decide)]
      simp [Array.getElem?_modify, hg]
    have hk : ∀ k, k ≠ g → (w.freeze ⟨g, cap, none⟩ 1).heap[k]? = w.heap[k]? := fun k hk => by
      unfold World.freeze
      rw [if_neg (by decide)]
      simp only [Array.getElem?_modify]
      rw [if_neg (by omega)]
    refine ⟨w.freeze ⟨g, cap, none⟩ 1, ?_, ⟨g, cap, cur, rfl, hb, hh, hn, hm, hs, hx⟩, hB.trans ⟨?_, ?_, ?_, ?_, fun k hk' => hk k (by omega)⟩⟩
    · simp [convert, run_underlying ht, run_underlying he, markStringish, hsh]
    · unfold World.freeze
      rw [if_neg (by decide)]
    · unfold World.freeze
      rw [if_neg (by decide)]
    · unfold World.freeze
      rw [if_neg (by decide)]
    · unfold World.freeze
      rw [if_neg (by decide)]
      simp
theorem R_lower {base' : Nat} (h : Mk e w base v xs) (hb : base' ≤ base) : Mk e w base' v xs := by
  obtain ⟨g, cap, cur, h1, h2, h3⟩ := h
  exact ⟨g, cap, cur, h1, Nat.le_trans hb h2, h3⟩
theorem R_below (h : Mk e w base v xs) (hb : Below w.heap.size w w1) : Mk e w1 base v xs := by
  obtain ⟨g, cap, cur, h1, h2, h3, h4⟩ := h
  exact ⟨g, cap, cur, h1, h2, (hb.block g (Array.getElem?_eq_some_iff.1 h3).1).trans h3, h4⟩
theorem R_slice (h : Mk e w base v xs) : ∃ A c, v = .slice A xs.length c := by
  obtain ⟨g, cap, cur, h1, _⟩ := h
  exact ⟨_, _, h1⟩
theorem R_form (h : Mk e w base v xs) (_hp : 0 < xs.length) : ∃ g cap, v = .slice (some ⟨g, 0, none⟩) xs.length cap ∧ base ≤ g ∧ g < w.heap.size ∧ ∃ cells, w.heap[g]? = some (.cells cells e (cap, cap + 1)) := by
  obtain ⟨g, cap, cur, h1, h2, h3, _⟩ := h
  exact ⟨g, cap, h1, h2, (Array.getElem?_eq_some_iff.1 h3).1, cur, h3⟩
theorem R_celln (d : Int) (h : Mk e W base (.slice (some ⟨g, 0, none⟩) n cap) xs) (i : Int) (h0 : 0 ≤ i) (hi : i < n) : W.cell? ⟨g, i.toNat, none⟩ = some (.int .u8 (rdOf d xs i)) ∧ W.frozen? ⟨g, i.toNat, none⟩ = false := by
  obtain ⟨g', cap', cur, hv, hb, hg, hn, hm, hs, hx⟩ := h
  injection hv with ha hl hc
  injection ha with ha
  injection ha with ha
  subst ha hc hl
  constructor
  · rw [cell_of_row W g i.toNat cur e _ hg]
    have h1 : (cur.toList.take xs.length)[i.toNat]? = (nums .u8 xs)[i.toNat]? := by rw [hx]
    rw [List.getElem?_take, if_pos (by omega)] at h1
    have h2 : (nums .u8 xs)[i.toNat]? = some (.int .u8 (rdOf d xs i)) := encs_get (enc := Value.int .u8) (d := d) xs i.toNat (by omega)
    rw [h2] at h1
    simpa using h1
  · simp [World.frozen?, hg]
    omega
theorem R_putg (h : Mk e W base (.slice (some ⟨g, 0, none⟩) n cap) xs) (i : Int) (x : Int) : Mk e (W.setCell ⟨g, i.toNat, none⟩ (.int .u8 x)) base (.slice (some ⟨g, 0, none⟩) n cap) (xs.set i.toNat x) ∧ True := by
  obtain ⟨g', cap', cur, hv, hb, hg, hn, hm, hs, hx⟩ := h
  injection hv with ha hl hc
  injection ha with ha
  injection ha with ha
  subst ha hc hl
  refine ⟨⟨g, cap, cur.setIfInBounds i.toNat (.int .u8 x), by rw [List.length_set], hb, ?_, by rw [List.length_set]; exact hn, hm, by simp [hs], ?_⟩, trivial⟩
  · rw [setCell_eq_setRow W g i.toNat cur e _ _ hg]
    exact setRow_heap W g _ _ e _ hg
  · rw [List.length_set, Array.toList_setIfInBounds, List.take_set, hx]
    simp [nums, List.map_set]
theorem R_reads' {A : Option Addr} (h : Mk e W base (.slice A n cap) xs) : n = xs.length ∧ n ≤ cap ∧ (Kd.int .u8).C W A xs.length xs := by
  have h' := h
  obtain ⟨g', cap', cur, hv, hb, hg, hn, hm, hs, hx⟩ := h
  injection hv with ha hl hc
  subst ha hc hl
  have hM : maxLen ≤ 9223372036854775807 := by decide
  refine ⟨rfl, hn, rfl, by omega, fun _ => ⟨_, rfl, fun j p hj => ⟨[.int .u8 p], rfl, rfl, fun i u hi => ?_⟩⟩⟩
  obtain ⟨hjl, rfl⟩ := List.getElem?_eq_some_iff.1 hj
  have := (R_celln 0 h' (j : Int) (by omega) (by omega)).1
  rw [Int.toNat_natCast] at this
  match i, hi with
  | 0, hi =>
    obtain rfl : Value.int .u8 xs[j] = u := by simpa using hi
    rw [show (Kd.int .u8).sz = 1 from rfl, Nat.mul_one, Nat.add_zero, add_plain, this]
    simp [rdOf, List.getD_eq_getElem?_getD, List.getElem?_eq_getElem hjl]
theorem str {src dst e' : TypeId} (hs : P.underlying src = some (.slice e')) (he : P.underlying e' = some (.int .u8)) (hd : P.underlying dst = some .string) (h : Mk e w base v xs) : (convert src dst v).run P w = .ok (.string (strOfNums xs)) w := by
  have h' := h
  obtain ⟨g, cap, cur, rfl, hb, hg, hn, hm, hs', hx⟩ := h
  refine run_convert_bytes_arg w src e' hs he g 0 xs.length cap xs rfl (fun i hi => ?_) dst hd
  have := (R_celln 0 h' i (by omega) (by omega)).1
  rw [Int.toNat_natCast] at this
  rw [Nat.zero_add, this]
  simp [rdOf]
end Mk
end Go.Proofs.YtmgeokfknehonaaDoorW.PrintWords
