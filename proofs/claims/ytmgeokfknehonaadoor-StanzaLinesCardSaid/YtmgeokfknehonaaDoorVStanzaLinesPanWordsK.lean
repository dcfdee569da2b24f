/- Words of this claim for functions that catch what is told by two numbers, and for closures that lay zero values. Plain theorems. -/
import Derived.Test.YtmgeokfknehonaaDoorVStanzaLinesWords
import Derived.Test.YtmgeokfknehonaaDoorVStanzaLinesKept
import Derived.Test.YtmgeokfknehonaaDoorVStanzaLinesPanWords
namespace Go.Proofs.YtmgeokfknehonaaDoorW.PrintWords
open Go.RowKit
theorem catch_post2 {g0 g1 t0 t1 : Nat} {x0 x1 a b : Value} {w : World} (o : Obj) (h0 : w.heap[g0]? = some (.cells #[x0] t0 (0, 0))) (h1 : w.heap[g1]? = some (.cells #[x1] t1 (0, 0))) (hne : g1 ≠ g0) :
    (((w.setCell ⟨g0, 0, none⟩ a).setCell ⟨g1, 0, none⟩ b).alloc o).drew.heap[g0]? = some (.cells #[a] t0 (0, 0)) ∧ (((w.setCell ⟨g0, 0, none⟩ a).setCell ⟨g1, 0, none⟩ b).alloc o).drew.heap[g1]? = some (.cells #[b] t1 (0, 0)) ∧
    Kept w (((w.setCell ⟨g0, 0, none⟩ a).setCell ⟨g1, 0, none⟩ b).alloc o).drew (fun k => k = g0 ∨ k = g1) ∧ ∀ B, B ≤ g0 → B ≤ g1 → Below B w (((w.setCell ⟨g0, 0, none⟩ a).setCell ⟨g1, 0, none⟩ b).alloc o).drew := by
  refine ⟨?_, ?_, ?_, ?_⟩
  · exact blk_drew (blk_alloc (blk_far (blk_put h0 0 _ rfl) (fun e => hne e.symm) _) _)
  · exact blk_drew (blk_alloc (blk_put (blk_far h1 hne _) 0 _ rfl) _)
  · exact Kept.drew (Kept.alloc (Kept.setCell (Kept.setCell (Kept.refl _ _) (.inl (.inl rfl)) _) (.inl (.inr rfl)) _) _)
  · intro B h2 h3
    have h4 := (((Below.refl B w).setCell (p := ⟨g0, 0, none⟩) h2 a).setCell (p := ⟨g1, 0, none⟩) h3 b)
    have h5 : B ≤ ((w.setCell ⟨g0, 0, none⟩ a).setCell ⟨g1, 0, none⟩ b).heap.size := Nat.le_trans (Nat.le_trans h2 (Nat.le_of_lt (blk_lt h0))) h4.size
    exact below_drew (h4.alloc h5 o)
theorem zero_post1 {g t : Nat} {x a : Value} {w : World} (h : w.heap[g]? = some (.cells #[x] t (0, 0))) :
    (w.setCell ⟨g, 0, none⟩ a).heap[g]? = some (.cells #[a] t (0, 0)) ∧ Kept w (w.setCell ⟨g, 0, none⟩ a) (fun k => k = g) ∧ ∀ B, B ≤ g → Below B w (w.setCell ⟨g, 0, none⟩ a) :=
  ⟨blk_put h 0 _ rfl, Kept.setCell (p := ⟨g, 0, none⟩) (S := fun k => k = g) (Kept.refl _ _) (.inl rfl) _, fun B hB => (Below.refl B w).setCell (p := ⟨g, 0, none⟩) hB a⟩
end Go.Proofs.YtmgeokfknehonaaDoorW.PrintWords
