/- Words of this claim for what a package-level number holds: whatever, and it stays. Plain theorems. -/
import Derived.Test.YtmgeokfknehonaaDoorVStanzaLinesWords
namespace Go.Proofs.YtmgeokfknehonaaDoorW.PrintWords
open Go.RowKit
/-- internal/bytealg.MaxLen holds some number. -/
def Glob (w : World) : Prop := ∃ m, w.cell? ⟨0, 0, none⟩ = some (.int .i64 m)
theorem Glob.below {w W : World} (h : Glob w) (hb : Below w.heap.size w W) : Glob W := by
  obtain ⟨m, hm⟩ := h
  exact ⟨m, (hb.cell (World.block_lt_of_cell? _ _ hm)).trans hm⟩
theorem Glob.drawn {w W : World} (h : Glob w) (hd : Drawn0 w W) : Glob W := h.below hd.below
end Go.Proofs.YtmgeokfknehonaaDoorW.PrintWords
