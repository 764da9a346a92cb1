/- The laws BoundMost and BoundSmall answer true. Conditions: memory is as what came in is. -/
import Derived.Test.YtolchnaegifckaaHSDe
namespace Go.Proofs.Ytolchnaegifckaa.HS
open Go

theorem Nums.bds {H : Heap} {b : Nat} {p : List Ins} (h : Nums H b (bds p)) : RInts H (numSl b (p.length + 1)) (bds p) := by
  have := h.rints
  rw [bds_len] at this
  exact this
end Go.Proofs.Ytolchnaegifckaa.HS
